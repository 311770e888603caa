/- Which classes there may be, in plain terms; the contract of the reference's May (almeryref02). -/
import Derived.Test.YthhpkinedbdlhaaLV
namespace Go.Proofs.Ythhpkinedbdlhaa
open Go.RowKit
def prevC (l : List Int) (k : Nat) : Int := if k = 0 then 0 else l.getD (k - 1) 0
def okC (l : List Int) (page : Int) (k : Nat) : Prop := 8 ≤ l.getD k 0 ∧ l.getD k 0 % 8 = 0 ∧ l.getD k 0 ≤ page ∧ prevC l k < l.getD k 0
instance (l : List Int) (page : Int) (k : Nat) : Decidable (okC l page k) := by unfold okC; infer_instance
def mayB (l : List Int) (page : Int) : Bool := decide (0 < l.length) && decide (l.length ≤ 16) && (List.range l.length).all fun k => decide (okC l page k)
theorem mayB_iff {l : List Int} {page : Int} : mayB l page = true ↔ 0 < l.length ∧ l.length ≤ 16 ∧ ∀ k, k < l.length → okC l page k := by
  simp [mayB, and_assoc]
def mayE (l : List Int) (page : Int) : Int := if mayB l page then 0 else 1
theorem mayE_yes {l : List Int} {page : Int} (h0 : 0 < l.length) (h1 : l.length ≤ 16) (h : ∀ k, k < l.length → okC l page k) : mayE l page = 0 := if_pos (mayB_iff.2 ⟨h0, h1, h⟩)
theorem mayE_none {l : List Int} {page : Int} (h0 : l.length = 0) : mayE l page = 1 := if_neg (fun h => by have := (mayB_iff.1 h).1; omega)
theorem mayE_many {l : List Int} {page : Int} (h0 : 16 < l.length) : mayE l page = 1 := if_neg (fun h => by have := (mayB_iff.1 h).2.1; omega)
theorem mayE_bad {l : List Int} {page : Int} {k : Nat} (hk : k < l.length) (h : ¬ okC l page k) : mayE l page = 1 := if_neg (fun h' => h ((mayB_iff.1 h').2.2 k hk))
def OkTo (l : List Int) (page : Int) (k : Nat) : Prop := ∀ j, j < k → okC l page j
theorem OkTo.step {l : List Int} {page : Int} {k : Nat} (h : OkTo l page k) (hk : okC l page k) : OkTo l page (k + 1) := fun j hj => by
  rcases Nat.lt_succ_iff_lt_or_eq.1 hj with h1 | rfl
  · exact h j h1
  · exact hk
theorem okC_zero {l : List Int} {page : Int} : okC l page 0 ↔ 8 ≤ l.getD 0 0 ∧ l.getD 0 0 % 8 = 0 ∧ l.getD 0 0 ≤ page := by
  unfold okC prevC
  rw [if_pos rfl]
  constructor
  · rintro ⟨a, b, c, _⟩; exact ⟨a, b, c⟩
  · rintro ⟨a, b, c⟩; exact ⟨a, b, c, by omega⟩
theorem okC_succ {l : List Int} {page : Int} {m : Nat} : okC l page (m + 1) ↔ 8 ≤ l.getD (m + 1) 0 ∧ l.getD (m + 1) 0 % 8 = 0 ∧ l.getD (m + 1) 0 ≤ page ∧ l.getD m 0 < l.getD (m + 1) 0 := by
  unfold okC prevC
  rw [if_neg (by omega), Nat.add_sub_cancel]

set_option maxHeartbeats 20000000 in
theorem rmay02_any (B : Nat) (w : World) (v : Value) (l : List Int) (page : Int) (h : LV B w v l) : Calls Try.prog 22 #[v, .int .i64 page] w fun e w' => e = .returned (.int .i64 (mayE l page)) ∧ Keep (fun _ => False) w w' := by
  have H := Lib.hid h
  obtain ⟨a, c, rfl, hc, hm, _, _⟩ := h
  unfold maxLen at hm
  by_cases h0 : l.length = 0
  · rw [mayE_none h0]
    rw [h0] at hc ⊢
    clear h0
    go_enter Try.func22, Try.ntmps22
    go_wp2_with fail
    go_ret
    exact ⟨rfl, Keep.refl _ _⟩
  · have e0 : ((l.length : Int) == 0) = false := beq_eq_false_iff_ne.2 (by omega)
    have hp : 0 < l.length := by omega
    by_cases h16 : 16 < l.length
    · rw [mayE_many h16]
      have h16' : (16 : Int) < l.length := by omega
      clear h16 h0
      go_enter Try.func22, Try.ntmps22
      go_wp2_with fail
      go_ret
      exact ⟨rfl, Keep.refl _ _⟩
    · have h16' : (l.length : Int) ≤ 16 := by omega
      have h16'' : l.length ≤ 16 := by omega
      clear h16 h0
      go_enter Try.func22, Try.ntmps22
      go_wp2_with fail
      go_loopw [5] (fun i wr => ∃ k : Nat, k ≤ l.length ∧ i = .int .i64 k ∧ Hid (OkTo l page k) ∧ Keep (fun _ => False) w wr) (fun i _ => l.length - (intOf i).toNat)
      case atStart => exact ⟨0, Nat.zero_le _, rfl, Lib.hid (fun j hj => absurd hj (Nat.not_lt_zero j)), Keep.refl _ _⟩
      case round =>
        obtain ⟨k, hk, rfl, hno, hK⟩ := hrel
        by_cases hlt : k < l.length
        · have hbad := Lib.hid (fun h => mayE_bad (page := page) hlt h)
          have hstep := Lib.hid (fun h => hno.out.step h)
          have hbr := below_of_keepF hK
          cases k with
          | zero =>
            obtain ⟨gl, off, c', hv, hx⟩ := H.out.elem hlt
            cases hv
            have hx0 := hx _ hbr
            clear hx
            rw [Nat.add_zero] at hx0
            rw [show ((0 : Nat) : Int) = 0 from rfl]
            have hok := Lib.hid (okC_zero (l := l) (page := page))
            generalize hz : l.getD 0 0 = x at hx0 hok
            clear hz
            by_cases h1 : x < 8
            · have HB := Lib.hid (hbad.out (fun h => by have := (hok.out.1 h).1; omega))
              go_wp2_with fail
              all_goals (try go_quiet (fail))
              all_goals (try go_wp2_with fail)
              go_ret
              exact ⟨by rw [HB.out]; rfl, by first | exact hK | exact hK.drewN _⟩
            · have h1' : 8 ≤ x := by omega
              have d1 : decide (x < 8) = false := by simp; omega
              clear h1
              by_cases h2 : x % 8 = 0
              · have e2 : (x % 8 != 0) = false := by simp [h2]
                have e2t : x.tmod 8 = x % 8 := Int.tmod_eq_emod_of_nonneg (by omega)
                have H2 := Lib.hid h2
                clear h2
                by_cases h3 : x ≤ page
                · have d3 : decide (page < x) = false := by simp; omega
                  go_wp2_with fail
                  all_goals (try go_quiet (fail))
                  all_goals (try go_wp2_with fail)
                  go_roundw
                  case rel => exact ⟨1, hlt, by go_num, Lib.hid (hstep.out (hok.out.2 ⟨h1', H2.out, h3⟩)), by first | exact hK | exact hK.drewN _⟩
                  case measure => simp [intOf]; omega
                · have h3' : page < x := by omega
                  have d3 : decide (page < x) = true := by simpa using h3'
                  have HB := Lib.hid (hbad.out (fun h => by have := (hok.out.1 h).2.2; omega))
                  clear h3
                  go_wp2_with fail
                  all_goals (try go_quiet (fail))
                  all_goals (try go_wp2_with fail)
                  go_ret
                  exact ⟨by rw [HB.out]; rfl, by first | exact hK | exact hK.drewN _⟩
              · have e2 : (x % 8 != 0) = true := by simp [h2]
                have e2t : x.tmod 8 = x % 8 := Int.tmod_eq_emod_of_nonneg (by omega)
                have HB := Lib.hid (hbad.out (fun h => h2 (hok.out.1 h).2.1))
                clear h2
                go_wp2_with fail
                all_goals (try go_quiet (fail))
                all_goals (try go_wp2_with fail)
                go_ret
                exact ⟨by rw [HB.out]; rfl, by first | exact hK | exact hK.drewN _⟩
          | succ m =>
            obtain ⟨gl, off, c', hv, hx⟩ := H.out.elem hlt
            obtain ⟨gl', off', c'', hv', hx'⟩ := H.out.elem (k := m) (by omega)
            cases hv
            cases hv'
            have hx0 := hx _ hbr
            have hy0 := hx' _ hbr
            clear hx hx'
            have hok := Lib.hid (okC_succ (l := l) (page := page) (m := m))
            generalize hz : l.getD (m + 1) 0 = x at hx0 hok
            generalize hz' : l.getD m 0 = y at hy0 hok
            clear hz hz'
            by_cases h1 : x < 8
            · have HB := Lib.hid (hbad.out (fun h => by have := (hok.out.1 h).1; omega))
              go_wp2_with fail
              all_goals (try go_quiet (fail))
              all_goals (try go_wp2_with fail)
              go_ret
              exact ⟨by rw [HB.out]; rfl, by first | exact hK | exact hK.drewN _⟩
            · have h1' : 8 ≤ x := by omega
              have d1 : decide (x < 8) = false := by simp; omega
              clear h1
              by_cases h2 : x % 8 = 0
              · have e2 : (x % 8 != 0) = false := by simp [h2]
                have e2t : x.tmod 8 = x % 8 := Int.tmod_eq_emod_of_nonneg (by omega)
                have H2 := Lib.hid h2
                clear h2
                by_cases h3 : x ≤ page
                · have d3 : decide (page < x) = false := by simp; omega
                  by_cases h4 : y < x
                  · have d4 : decide (x ≤ y) = false := by simp; omega
                    go_wp2_with fail
                    all_goals (try go_quiet (fail))
                    all_goals (try go_wp2_with fail)
                    go_roundw
                    case rel => exact ⟨m + 2, hlt, by go_num, Lib.hid (hstep.out (hok.out.2 ⟨h1', H2.out, h3, h4⟩)), by first | exact hK | exact hK.drewN _⟩
                    case measure => simp [intOf]; omega
                  · have h4' : x ≤ y := by omega
                    have d4 : decide (x ≤ y) = true := by simpa using h4'
                    have HB := Lib.hid (hbad.out (fun h => by have := (hok.out.1 h).2.2.2; omega))
                    clear h4
                    go_wp2_with fail
                    all_goals (try go_quiet (fail))
                    all_goals (try go_wp2_with fail)
                    go_ret
                    exact ⟨by rw [HB.out]; rfl, by first | exact hK | exact hK.drewN _⟩
                · have h3' : page < x := by omega
                  have d3 : decide (page < x) = true := by simpa using h3'
                  have HB := Lib.hid (hbad.out (fun h => by have := (hok.out.1 h).2.2.1; omega))
                  clear h3
                  go_wp2_with fail
                  all_goals (try go_quiet (fail))
                  all_goals (try go_wp2_with fail)
                  go_ret
                  exact ⟨by rw [HB.out]; rfl, by first | exact hK | exact hK.drewN _⟩
              · have e2 : (x % 8 != 0) = true := by simp [h2]
                have e2t : x.tmod 8 = x % 8 := Int.tmod_eq_emod_of_nonneg (by omega)
                have HB := Lib.hid (hbad.out (fun h => h2 (hok.out.1 h).2.1))
                clear h2
                go_wp2_with fail
                all_goals (try go_quiet (fail))
                all_goals (try go_wp2_with fail)
                go_ret
                exact ⟨by rw [HB.out]; rfl, by first | exact hK | exact hK.drewN _⟩
        · obtain rfl : k = l.length := by omega
          have HB := Lib.hid (mayE_yes hp h16'' hno.out)
          go_wp2_with fail
          go_ret
          exact ⟨by rw [HB.out]; rfl, hK⟩
end Go.Proofs.Ythhpkinedbdlhaa
