/- The contracts of class.May, of Waste and of Look, and of the reference's. -/
import Derived.Test.YtbcmdpmliehojaaPick
import Derived.Test.YtbcmdpmliehojaaMayC
import Derived.Test.YtbcmdpmliehojaaRMany
import Derived.WalkMore
namespace Go.Proofs.Ytbcmdpmliehojaa
open Go.RowKit

set_option maxHeartbeats 4000000 in
theorem may_any (B : Nat) (w : World) (v : Value) (l : List Int) (page : Int) (h : LV B w v l) : Calls Try.prog 9 #[v, .int .i64 page] w fun e w' => e = .returned (.int .i64 (mayE l page)) ∧ w = w' := by
  have H := Lib.hid h
  obtain ⟨a, c, rfl, hc, hm, _, _⟩ := h
  unfold maxLen at hm
  by_cases h0 : l.length = 0
  · have HB := Lib.hid (mayE_none (page := page) h0)
    rw [h0] at hc ⊢
    clear h0
    go_enter Try.func9, Try.ntmps9
    go_wp2_with fail
    go_step3
    go_wp2_with fail
    go_step3
    go_wp2_with fail
    go_loop [5, 19] (fun ok i => ok = .bool false ∧ i = .int .i64 0) (fun _ i => 0)
    case atStart => exact ⟨rfl, rfl⟩
    case round =>
      obtain ⟨rfl, rfl⟩ := hrel
      go_wp2_with fail
      try rw [Exit.noGoto_ret]
      go_ret
      exact ⟨by rw [HB.out]; rfl, rfl⟩
  · have hp : 0 < l.length := by omega
    by_cases h16 : 16 < l.length
    · have HB := Lib.hid (mayE_many (page := page) h16)
      have h16' : (16 : Int) < l.length := by omega
      have d16 : decide ((l.length : Int) ≤ 16) = false := by simp; omega
      obtain ⟨gl, off, c', hv, hx⟩ := H.out.elem hp
      cases hv
      have hx0 := hx _ (Below.refl _ _)
      rw [Nat.add_zero] at hx0
      clear h16 h0 hx
      generalize hz : l.getD 0 0 = x at hx0
      clear hz
      go_enter Try.func9, Try.ntmps9
      go_wp2_with fail
      go_step3
      go_wp2_with fail
      go_step3
      go_wp2_with fail
      go_loop [5, 19] (fun ok i => ok = .bool false ∧ i = .int .i64 0) (fun _ i => 0)
      case atStart => exact ⟨rfl, rfl⟩
      case round =>
        obtain ⟨rfl, rfl⟩ := hrel
        go_wp2_with fail
        try rw [Exit.noGoto_ret]
        go_ret
        exact ⟨by rw [HB.out]; rfl, rfl⟩
    · have h16' : (l.length : Int) ≤ 16 := by omega
      have h16'' : l.length ≤ 16 := by omega
      have hp' : (0 : Int) < l.length := by omega
      clear h16 h0
      go_enter Try.func9, Try.ntmps9
      go_wp2_with fail
      go_step3
      go_wp2_with fail
      go_step3
      go_wp2_with fail
      go_loop [5, 6, 19] (fun ok ah i => ∃ k : Nat, k ≤ l.length ∧ i = .int .i64 k ∧ ok = .bool true ∧ ah = .int .i64 (prevC l k) ∧ Hid (OkTo l page k)) (fun _ _ i => l.length - (intOf i).toNat)
      case atStart => exact ⟨0, Nat.zero_le _, rfl, rfl, rfl, Lib.hid (fun j hj => absurd hj (Nat.not_lt_zero j))⟩
      case round =>
        obtain ⟨k, hk, rfl, rfl, rfl, hno⟩ := hrel
        by_cases hlt : k < l.length
        · obtain ⟨gl, off, c', hv, hx⟩ := H.out.elem hlt
          cases hv
          have hx0 := hx _ (Below.refl _ _)
          clear hx
          have hpr : prevC l (k + 1) = l.getD k 0 := by unfold prevC; rw [if_neg (by omega), Nat.add_sub_cancel]
          have hbad := Lib.hid (fun h => mayE_bad (page := page) hlt h)
          have hstep := Lib.hid (fun h => hno.out.step h)
          have hok := Lib.hid (show okC l page k ↔ 8 ≤ l.getD k 0 ∧ l.getD k 0 % 8 = 0 ∧ l.getD k 0 ≤ page ∧ prevC l k < l.getD k 0 from Iff.rfl)
          have HPR := Lib.hid hpr
          generalize hz : l.getD k 0 = x at hx0 hok HPR
          generalize hz' : prevC l k = y at hok ⊢
          clear hz hz' hpr
          by_cases h1 : x < 8
          · have HB := Lib.hid (hbad.out (fun h => by have := (hok.out.1 h).1; omega))
            go_wp2_with fail
            try rw [Exit.noGoto_ret]
            go_ret
            exact ⟨by rw [HB.out]; rfl, rfl⟩
          · have h1' : 8 ≤ x := by omega
            clear h1
            by_cases h2 : x % 8 = 0
            · have e2 : (x % 8 == 0) = true := by simp [h2]
              have H2 := Lib.hid h2
              clear h2
              by_cases h3 : x ≤ page
              · by_cases h4 : y < x
                · have d4 : decide (y < x) = true := by simpa using h4
                  go_wp2_with fail
                  go_round
                  case rel => exact ⟨k + 1, hlt, by go_num, rfl, by rw [HPR.out], Lib.hid (hstep.out (hok.out.2 ⟨h1', H2.out, h3, h4⟩))⟩
                  case measure => simp [intOf]; omega
                · have h4' : x ≤ y := by omega
                  have d4 : decide (y < x) = false := by simp; omega
                  have HB := Lib.hid (hbad.out (fun h => by have := (hok.out.1 h).2.2.2; omega))
                  clear h4
                  go_wp2_with fail
                  try rw [Exit.noGoto_ret]
                  go_ret
                  exact ⟨by rw [HB.out]; rfl, rfl⟩
              · have h3' : page < x := by omega
                have HB := Lib.hid (hbad.out (fun h => by have := (hok.out.1 h).2.2.1; omega))
                clear h3
                go_wp2_with fail
                try rw [Exit.noGoto_ret]
                go_ret
                exact ⟨by rw [HB.out]; rfl, rfl⟩
            · have e2 : (x % 8 == 0) = false := by simp [h2]
              have HB := Lib.hid (hbad.out (fun h => h2 (hok.out.1 h).2.1))
              clear h2
              go_wp2_with fail
              try rw [Exit.noGoto_ret]
              go_ret
              exact ⟨by rw [HB.out]; rfl, rfl⟩
        · obtain rfl : k = l.length := by omega
          have HB := Lib.hid (mayE_yes hp h16'' hno.out)
          go_wp2_with fail
          try rw [Exit.noGoto_ret]
          go_ret
          exact ⟨by rw [HB.out]; rfl, rfl⟩

def wasteP (l : List Int) (n : Int) : Int := if pickP l n = -1 then -1 else l.getD (pickP l n).toNat 0 - n
theorem pick_ge {l : List Int} {n : Int} (h : pickP l n ≠ -1) : 1 ≤ n ∧ ∃ k : Nat, pickP l n = k ∧ k < l.length ∧ n ≤ l.getD k 0 ∧ ∀ j, j < k → l.getD j 0 < n := by
  unfold pickP at h ⊢
  by_cases hn : n < 1
  · rw [if_pos hn] at h; exact absurd rfl h
  · rw [if_neg hn] at h ⊢
    refine ⟨by omega, ?_⟩
    rcases idxP_idx (geP n) l with ⟨h1, _⟩ | ⟨k, h1, h2, h3, h4⟩
    · exact absurd h1 h
    · refine ⟨k, h1, h2, by simpa [geP] using h3, fun j hj => ?_⟩
      have := h4 j hj
      simp only [geP, decide_eq_false_iff_not] at this
      omega

theorem waste_any (B : Nat) (w : World) (v : Value) (l : List Int) (n : Int) (h : LV B w v l) (hx : ∀ k, l.getD k 0 ≤ 9223372036854775807) : Calls Try.prog 13 #[v, .int .i64 n] w fun e w' => e = .returned (.int .i64 (wasteP l n)) ∧ Below w.heap.size w w' := by
  have H := Lib.hid h
  have HX := Lib.hid hx
  have hpk := Lib.hid (pick_any B w v l n h)
  obtain ⟨a, c, rfl, hc, hm, _, _⟩ := h
  unfold maxLen at hm
  clear hx
  by_cases hp : pickP l n = -1
  · have HP := Lib.hid hp
    have HW : Hid (wasteP l n = -1) := Lib.hid (if_pos hp)
    clear hp
    go_enter Try.func13, Try.ntmps13
    go_wp2_with fail
    refine hpk.out.mono ?_
    rintro e w1 ⟨rfl, b1⟩
    rw [HP.out]
    go_wp2_with fail
    go_ret
    exact ⟨by rw [HW.out]; rfl, b1⟩
  · obtain ⟨hn, k, hk, hkl, hge, _⟩ := pick_ge hp
    have HP := Lib.hid hk
    have HW : Hid (wasteP l n = l.getD k 0 - n) := Lib.hid (by unfold wasteP; rw [if_neg hp, hk]; rfl)
    obtain ⟨gl, off, c', hv, hx⟩ := H.out.elem hkl
    cases hv
    have Hx := Lib.hid hx
    have e0 : ((k : Int) == -1) = false := beq_eq_false_iff_ne.2 (by omega)
    have hxm := HX.out k
    clear hp hk hx
    generalize hz : l.getD k 0 = x at Hx HW hge hxm
    clear hz
    go_enter Try.func13, Try.ntmps13
    go_wp2_with fail
    refine hpk.out.mono ?_
    rintro e w1 ⟨rfl, b1⟩
    rw [HP.out]
    have hx0 := Hx.out w1 b1
    go_wp2_with fail
    go_ret
    exact ⟨by rw [HW.out]; rfl, b1⟩
theorem rwaste_any (B : Nat) (w : World) (v : Value) (l : List Int) (n : Int) (h : LV B w v l) (hx : ∀ k, l.getD k 0 ≤ 9223372036854775807) : Calls Try.prog 14 #[v, .int .i64 n] w fun e w' => e = .returned (.int .i64 (wasteP l n)) ∧ w = w' := by
  have H := Lib.hid h
  have HX := Lib.hid hx
  have hpk := Lib.hid (rpick_any B w v l n h)
  obtain ⟨a, c, rfl, hc, hm, _, _⟩ := h
  unfold maxLen at hm
  clear hx
  by_cases hp : pickP l n = -1
  · have HP := Lib.hid hp
    have HW : Hid (wasteP l n = -1) := Lib.hid (if_pos hp)
    clear hp
    go_enter Try.func14, Try.ntmps14
    go_wp2_with fail
    refine hpk.out.mono ?_
    rintro e w1 ⟨rfl, rfl⟩
    rw [HP.out]
    go_wp2_with fail
    go_ret
    exact ⟨by rw [HW.out]; rfl, rfl⟩
  · obtain ⟨hn, k, hk, hkl, hge, _⟩ := pick_ge hp
    have HP := Lib.hid hk
    have HW : Hid (wasteP l n = l.getD k 0 - n) := Lib.hid (by unfold wasteP; rw [if_neg hp, hk]; rfl)
    obtain ⟨gl, off, c', hv, hx⟩ := H.out.elem hkl
    cases hv
    have Hx := Lib.hid hx
    have hxm := HX.out k
    clear hp hk hx
    generalize hz : l.getD k 0 = x at Hx HW hge hxm
    clear hz
    go_enter Try.func14, Try.ntmps14
    go_wp2_with fail
    refine hpk.out.mono ?_
    rintro e w1 ⟨rfl, rfl⟩
    rw [HP.out]
    have hx0 := Hx.out _ (Below.refl _ _)
    go_wp2_with fail
    go_ret
    exact ⟨by rw [HW.out]; rfl, rfl⟩

def lookP (t : List Int) (n : Int) : Int := if n < 1 ∨ (t.length : Int) ≤ manyS n 8 then -1 else t.getD (manyS n 8).toNat 0
theorem many_pos {n : Int} (h : 1 ≤ n) : manyS n 8 = (n - 1) / 8 + 1 := by unfold manyS; rw [if_neg (by omega)]
theorem look_any (B : Nat) (w : World) (v : Value) (t : List Int) (n : Int) (h : LV B w v t) (hn : n ≤ 9223372036854775807) : Calls Try.prog 18 #[v, .int .i64 n] w fun e w' => e = .returned (.int .i64 (lookP t n)) ∧ w = w' := by
  have H := Lib.hid h
  obtain ⟨a, c, rfl, hc, hm, _, _⟩ := h
  unfold maxLen at hm
  have hmy := Lib.hid (many_any w n 8 hn)
  by_cases h1 : n < 1
  · have HL : Hid (lookP t n = -1) := Lib.hid (if_pos (.inl h1))
    have HM : Hid (manyS n 8 = 0) := Lib.hid (by unfold manyS; rw [if_pos (by omega)])
    go_enter Try.func18, Try.ntmps18
    go_wp2_with fail
    refine hmy.out.mono ?_
    rintro e w1 ⟨rfl, rfl⟩
    rw [HM.out]
    go_wp2_with fail
    go_ret
    exact ⟨by rw [HL.out]; rfl, rfl⟩
  · obtain ⟨m, hmm⟩ : ∃ m : Nat, manyS n 8 = m := ⟨(manyS n 8).toNat, by rw [many_pos (by omega)]; omega⟩
    have hm1 : 1 ≤ m := by have := many_pos (n := n) (by omega); omega
    have e0 : ((m : Int) == 0) = false := beq_eq_false_iff_ne.2 (by omega)
    have HM := Lib.hid hmm
    by_cases h2 : (t.length : Int) ≤ m
    · have HL : Hid (lookP t n = -1) := Lib.hid (if_pos (.inr (by rw [hmm]; exact h2)))
      have h2' : t.length ≤ m := by omega
      clear hmm
      go_enter Try.func18, Try.ntmps18
      go_wp2_with fail
      refine hmy.out.mono ?_
      rintro e w1 ⟨rfl, rfl⟩
      rw [HM.out]
      go_wp2_with fail
      go_ret
      exact ⟨by rw [HL.out]; rfl, rfl⟩
    · have HL : Hid (lookP t n = t.getD m 0) := Lib.hid (by unfold lookP; rw [if_neg (by omega), hmm]; rfl)
      have h2' : m < t.length := by omega
      obtain ⟨gl, off, c', hv, hx⟩ := H.out.elem h2'
      cases hv
      have hx0 := hx _ (Below.refl _ _)
      clear hmm hx h2
      generalize hz : t.getD m 0 = x at hx0 HL
      clear hz
      go_enter Try.func18, Try.ntmps18
      go_wp2_with fail
      refine hmy.out.mono ?_
      rintro e w1 ⟨rfl, rfl⟩
      rw [HM.out]
      go_wp2_with fail
      go_ret
      exact ⟨by rw [HL.out]; rfl, rfl⟩
theorem rlook_any (B : Nat) (w : World) (v : Value) (t : List Int) (n : Int) (h : LV B w v t) (hn : n ≤ 9223372036854775807) : Calls Try.prog 19 #[v, .int .i64 n] w fun e w' => e = .returned (.int .i64 (lookP t n)) ∧ w = w' := by
  have H := Lib.hid h
  obtain ⟨a, c, rfl, hc, hm, _, _⟩ := h
  unfold maxLen at hm
  have hmy := Lib.hid (rmany_any w n 8 hn)
  by_cases h1 : n < 1
  · have HL : Hid (lookP t n = -1) := Lib.hid (if_pos (.inl h1))
    have HM : Hid (manyS n 8 = 0) := Lib.hid (by unfold manyS; rw [if_pos (by omega)])
    go_enter Try.func19, Try.ntmps19
    go_wp2_with fail
    refine hmy.out.mono ?_
    rintro e w1 ⟨rfl, rfl⟩
    rw [HM.out]
    go_wp2_with fail
    go_ret
    exact ⟨by rw [HL.out]; rfl, rfl⟩
  · obtain ⟨m, hmm⟩ : ∃ m : Nat, manyS n 8 = m := ⟨(manyS n 8).toNat, by rw [many_pos (by omega)]; omega⟩
    have HM := Lib.hid hmm
    have h1' : 1 ≤ n := by omega
    by_cases h2 : (t.length : Int) ≤ m
    · have HL : Hid (lookP t n = -1) := Lib.hid (if_pos (.inr (by rw [hmm]; exact h2)))
      have h2' : t.length ≤ m := by omega
      clear hmm h1
      go_enter Try.func19, Try.ntmps19
      go_wp2_with fail
      refine hmy.out.mono ?_
      rintro e w1 ⟨rfl, rfl⟩
      rw [HM.out]
      go_wp2_with fail
      go_ret
      exact ⟨by rw [HL.out]; rfl, rfl⟩
    · have HL : Hid (lookP t n = t.getD m 0) := Lib.hid (by unfold lookP; rw [if_neg (by omega), hmm]; rfl)
      have h2' : m < t.length := by omega
      obtain ⟨gl, off, c', hv, hx⟩ := H.out.elem h2'
      cases hv
      have hx0 := hx _ (Below.refl _ _)
      clear hmm hx h2 h1
      generalize hz : t.getD m 0 = x at hx0 HL
      clear hz
      go_enter Try.func19, Try.ntmps19
      go_wp2_with fail
      refine hmy.out.mono ?_
      rintro e w1 ⟨rfl, rfl⟩
      rw [HM.out]
      go_wp2_with fail
      go_ret
      exact ⟨by rw [HL.out]; rfl, rfl⟩
end Go.Proofs.Ytbcmdpmliehojaa
