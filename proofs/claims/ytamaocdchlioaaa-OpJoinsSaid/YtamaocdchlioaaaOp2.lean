/- Whether all ops may be (op.Put's look ahead), and whether they are few (almeryref19.Few). -/
import Derived.Test.YtamaocdchlioaaaOp1
namespace Go.Proofs.Ytamaocdchlioaaa
open Go.RowKit
set_option linter.unusedVariables false

def mayP (p : POp) : Bool := mayK p.k p.d.length
def MayTo (l : List POp) (k : Nat) : Prop := ∀ j, j < k → mayP (l.getD j op0) = true
def allMay (l : List POp) : Prop := ∀ j, j < l.length → mayP (l.getD j op0) = true
theorem MayTo.step {l : List POp} {k : Nat} (h : MayTo l k) (hk : mayP (l.getD k op0) = true) : MayTo l (k + 1) := fun j hj => by
  by_cases e : j = k
  · rw [e]; exact hk
  · exact h j (by omega)
def Look (l : List POp) (r : Int) : Prop := (allMay l ∧ r = -1) ∨ (¬ allMay l ∧ 0 ≤ r)
set_option maxHeartbeats 1000000 in
theorem indexP_any (w : World) (v : Value) (l : List POp) (h : OV w v l) : Calls Try.prog 22 #[v, .func (.func 16) #[] #[]] w fun e w' => ∃ r, e = .returned (.int .i64 r) ∧ Look l r ∧ Below w.heap.size w w' := by
  have H := Lib.hid h
  obtain ⟨A, c, rfl, hc, hm, _, _⟩ := h
  unfold maxLen at hm
  go_enter Try.func22, Try.ntmps22
  go_wp2_with fail
  go_loopw [8] (fun i wr => ∃ k : Nat, k ≤ l.length ∧ i = .int .i64 k ∧ Hid (MayTo l k) ∧ Below w.heap.size w wr) (fun i _ => l.length - (intOf i).toNat)
  case atStart => exact ⟨0, Nat.zero_le _, rfl, Lib.hid (fun j hj => absurd hj (Nat.not_lt_zero j)), Below.refl _ _⟩
  case round =>
    obtain ⟨k, hk, rfl, hno, br⟩ := hrel
    have BR := Lib.hid br
    clear br
    by_cases hlt : k < l.length
    · have E := H.out.elem hlt
      obtain ⟨b, off, c', dv, hv, h1, h2, hlb, hx⟩ := E
      cases hv
      obtain ⟨ad, cd, rfl, _, _, _, _⟩ := hlb
      obtain ⟨x0, x1, x2, x3, x4⟩ := hx wr BR.out
      have hcase : mayP (l.getD k op0) = true ∨ mayP (l.getD k op0) = false := by cases mayP (l.getD k op0) <;> simp
      have HN : Hid (mayP (l.getD k op0) = false → ¬ allMay l) := Lib.hid (fun e ha => by rw [ha k hlt] at e; cases e)
      have HS : Hid (mayP (l.getD k op0) = true → MayTo l (k + 1)) := Lib.hid (fun e => hno.out.step e)
      generalize l.getD k op0 = p at x0 x1 x2 x3 x4 hcase HN HS
      clear hx hno h1 h2
      rcases hcase with hp | hp
      · have Hp := Lib.hid hp
        clear hp
        go_wp2_with fail
        refine (put1_any _ p.k p.a p.b p.c ad p.d.length cd).mono ?_
        rw [show mayK p.k p.d.length = true from Hp.out]
        rintro e w2 ⟨rfl, b2⟩
        have B2 := Lib.hid (BR.out.trans (b2.mono BR.out.size))
        clear b2 x0 x1 x2 x3 x4
        go_wp2_with fail
        go_roundw
        case rel => exact ⟨k + 1, hlt, by go_num, Lib.hid (HS.out Hp.out), B2.out⟩
        case measure => simp [intOf]; omega
      · have Hp := Lib.hid hp
        clear hp
        go_wp2_with fail
        refine (put1_any _ p.k p.a p.b p.c ad p.d.length cd).mono ?_
        rw [show mayK p.k p.d.length = false from Hp.out]
        rintro e w2 ⟨rfl, b2⟩
        have B2 := Lib.hid (BR.out.trans (b2.mono BR.out.size))
        clear b2 x0 x1 x2 x3 x4
        go_wp2_with fail
        go_ret
        exact ⟨_, rfl, .inr ⟨HN.out Hp.out, by omega⟩, B2.out⟩
    · obtain rfl : k = l.length := by omega
      go_wp2_with fail
      go_ret
      exact ⟨_, rfl, .inl ⟨hno.out, rfl⟩, BR.out⟩
def allMayB (l : List POp) : Bool := (List.range l.length).all fun j => mayP (l.getD j op0)
theorem allMayB_iff {l : List POp} : allMayB l = true ↔ allMay l := by simp [allMayB, allMay]
theorem contains_any (w : World) (v : Value) (l : List POp) (h : OV w v l) : Calls Try.prog 15 #[v, .func (.func 16) #[] #[]] w fun e w' => e = .returned (.bool (!allMayB l)) ∧ Below w.heap.size w w' := by
  have H := Lib.hid h
  obtain ⟨A, c, rfl, hc, hm, _, _⟩ := h
  have hab : allMayB l = true ∨ allMayB l = false := by cases allMayB l <;> simp
  rcases hab with hab | hab
  · rw [hab]
    have HA := Lib.hid (allMayB_iff.1 hab)
    clear hab
    go_enter Try.func15, Try.ntmps15
    go_wp2_with fail
    refine (indexP_any _ _ l H.out).mono ?_
    rintro e w2 ⟨r, rfl, hl, b2⟩
    have B2 := Lib.hid b2
    clear b2
    obtain rfl : r = -1 := by
      rcases hl with h | h
      · exact h.2
      · exact absurd HA.out h.1
    clear hl
    go_wp2_with fail
    go_ret
    exact ⟨rfl, B2.out⟩
  · rw [hab]
    have HA : Hid (¬ allMay l) := Lib.hid (fun e => by rw [allMayB_iff.2 e] at hab; cases hab)
    clear hab
    go_enter Try.func15, Try.ntmps15
    go_wp2_with fail
    refine (indexP_any _ _ l H.out).mono ?_
    rintro e w2 ⟨r, rfl, hl, b2⟩
    have B2 := Lib.hid b2
    clear b2
    have hr : 0 ≤ r := by
      rcases hl with h | h
      · exact absurd h.1 HA.out
      · exact h.2
    clear hl
    go_wp2_with fail
    go_ret
    exact ⟨rfl, B2.out⟩
def fewB (l : List POp) : Bool := decide (l.length ≤ 40 ∧ ∀ j, j < l.length → (l.getD j op0).d.length ≤ 300)
def FewTo (l : List POp) (k : Nat) : Prop := ∀ j, j < k → (l.getD j op0).d.length ≤ 300
theorem few_any (w : World) (v : Value) (l : List POp) (h : OV w v l) : Calls Try.prog 9 #[v] w fun e w' => e = .returned (.bool (fewB l)) ∧ w = w' := by
  have H := Lib.hid h
  obtain ⟨A, c, rfl, hc, hm, _, _⟩ := h
  unfold maxLen at hm
  obtain ⟨r, hr⟩ : ∃ r, r = fewB l := ⟨_, rfl⟩
  rw [← hr]
  have HR := Lib.hid hr
  clear hr
  go_enter Try.func9, Try.ntmps9
  go_wp2_with fail
  go_loop [3] (fun i => ∃ k : Nat, k ≤ l.length ∧ k ≤ 41 ∧ i = .int .i64 k ∧ Hid (FewTo l k)) (fun i => l.length - (intOf i).toNat)
  case atStart => exact ⟨0, Nat.zero_le _, by omega, rfl, Lib.hid (fun j hj => absurd hj (Nat.not_lt_zero j))⟩
  case round =>
    obtain ⟨k, hk, hk2, rfl, hno⟩ := hrel
    by_cases hlt : k < l.length
    · by_cases h41 : k < 41
      · have E := H.out.elem hlt
        obtain ⟨b, off, c', dv, hv, h1, h2, hlb, hx⟩ := E
        cases hv
        obtain ⟨ad, cd, rfl, _, _, _, _⟩ := hlb
        have x4 := (hx w (Below.refl _ _)).2.2.2.2
        clear hx h1 h2
        by_cases h3 : (l.getD k op0).d.length ≤ 300
        · have HS : Hid (FewTo l (k + 1)) := Lib.hid (fun j hj => by
            by_cases e : j = k
            · rw [e]; exact h3
            · exact hno.out j (by omega))
          clear hno
          generalize (l.getD k op0).d.length = q at x4 h3
          go_wp2_with fail
          go_round
          case rel => exact ⟨k + 1, hlt, by omega, by go_num, HS⟩
          case measure => simp [intOf]; omega
        · obtain rfl : r = false := HR.out.trans (decide_eq_false (fun e => h3 (e.2 k hlt)))
          clear HR
          have h4 : (300 : Int) < (l.getD k op0).d.length := by omega
          clear hno h3
          generalize (l.getD k op0).d.length = q at x4 h4
          go_wp2_with fail
          go_ret
          exact ⟨rfl, rfl⟩
      · obtain rfl : r = false := HR.out.trans (decide_eq_false (fun e => by omega))
        clear HR
        have h5 : (40 : Int) < l.length := by omega
        go_wp2_with fail
        go_ret
        exact ⟨by simp <;> omega, rfl⟩
    · obtain rfl : k = l.length := by omega
      by_cases h40 : l.length ≤ 40
      · obtain rfl : r = true := HR.out.trans (decide_eq_true ⟨h40, hno.out⟩)
        clear HR
        go_wp2_with fail
        go_ret
        exact ⟨by simp <;> omega, rfl⟩
      · obtain rfl : r = false := HR.out.trans (decide_eq_false (fun e => by omega))
        clear HR
        have h5 : (40 : Int) < l.length := by omega
        go_wp2_with fail
        go_ret
        exact ⟨by simp <;> omega, rfl⟩
end Go.Proofs.Ytamaocdchlioaaa
