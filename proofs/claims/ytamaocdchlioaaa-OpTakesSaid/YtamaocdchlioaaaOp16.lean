/- Two laws of almerylaw19: OpPuts, OpTakes. -/
import Derived.Test.YtamaocdchlioaaaOp15
namespace Go.Proofs.Ytamaocdchlioaaa
open Go.RowKit
set_option linter.unusedVariables false

theorem byteArray_beq (S : ByteArray) : (S == S) = true := by
  cases S with
  | mk d =>
    show (d == d) = true
    simp
theorem few_len {l : List POp} (h : fewB l = true) : (encL l).length ≤ 13080 := by
  have h' := of_decide_eq_true h
  have h2 : ∀ k, k ≤ l.length → (encTo l k).length ≤ k * 327 := by
    intro k
    induction k with
    | zero => intro _; exact Nat.le_refl _
    | succ k ih =>
      intro hk
      have h3 := ih (by omega)
      have h4 := h'.2 k (by omega)
      rw [encTo, List.length_append, encO_len]
      omega
  have := h2 l.length (Nat.le_refl _)
  rw [encTo_all] at this
  have := h'.1
  omega
theorem small_of_len {l : List POp} (h : (encL l).length ≤ 60000) : Small l := by
  unfold Small
  rw [encTo_all]
  exact h
theorem small_of_few {l : List POp} (h : fewB l = true) : Small l := small_of_len (by have := few_len h; omega)
/-- a Put's bytes, or none: as a list -/
def putL (l : List POp) : List Int := if allMayB l then encL l else []
def putE (l : List POp) : Int := if allMayB l then 0 else 2
theorem Puts.eq {l : List POp} {w : World} {v : Value} {er : Int} (h : Puts l w v er) : er = putE l ∧ LB w v (putL l) := by
  unfold putE putL
  rcases h with ⟨h1, h2, h3⟩ | ⟨h1, h2, h3⟩
  · have hb := allMayB_iff.2 h1
    rw [if_pos hb, if_pos hb]
    rw [encTo_all] at h3
    exact ⟨h2, h3⟩
  · have hb : ¬ allMayB l = true := fun e => h1 (allMayB_iff.1 e)
    rw [if_neg hb, if_neg hb, h3]
    exact ⟨h2, lb_nil _⟩
def takeE (xs : List Int) : Int := if (takes xs).2 = xs.length then 0 else 2
def takeN (xs : List Int) : Nat := if (takes xs).2 = xs.length then 0 else (takes xs).2
def takeL (xs : List Int) : List POp := if (takes xs).2 = xs.length then (takes xs).1 else []
theorem ov_nil (w : World) : OV w (.slice none 0 0) [] := ⟨none, 0, rfl, Nat.le_refl _, Nat.zero_le _, fun _ => rfl, .inl rfl⟩
theorem Takes.eq {xs : List Int} {w : World} {v : Value} {n er : Int} (h : Takes xs w v n er) : er = takeE xs ∧ n = (takeN xs : Nat) ∧ OV w v (takeL xs) := by
  unfold takeE takeN takeL
  rcases h with ⟨h1, h2, h3, h4⟩ | ⟨h1, h2, h3, h4⟩
  · rw [if_pos h1, if_pos h1, if_pos h1]
    exact ⟨h2, by rw [h3]; rfl, h4⟩
  · have hb : ¬ (takes xs).2 = xs.length := by omega
    rw [if_neg hb, if_neg hb, if_neg hb, h4]
    exact ⟨h2, h3, ov_nil _⟩
set_option maxHeartbeats 2000000 in
theorem opPuts_law (w : World) (v : Value) (l : List POp) (hl : OV w v l) : Calls Try.prog 3 #[v] w fun e w' => e = .returned (.bool true) ∧ Below w.heap.size w w' := by
  have H := Lib.hid hl
  obtain ⟨A, c, rfl, hc, hm, _, _⟩ := hl
  go_enter Try.func3, Try.ntmps3
  go_wp2_with fail
  refine (awake_any _).mono ?_
  rintro e w1 ⟨rfl, b1⟩
  have B1 := Lib.hid b1
  have H1 := Lib.hid (H.out.keep b1)
  clear b1
  go_wp2_with fail
  refine (few_any _ _ l H1.out).mono ?_
  rintro e w2 ⟨rfl, rfl⟩
  have hab : fewB l = true ∨ fewB l = false := by cases fewB l <;> simp
  rcases hab with hf | hf
  · rw [hf]
    have HS := Lib.hid (small_of_few hf)
    clear hf
    go_wp2_with fail
    refine (put_any _ _ l H1.out HS.out).mono ?_
    rintro e w2 ⟨va, ea, rfl, hp, b2⟩
    obtain ⟨rfl, ha⟩ := hp.eq
    have B2 := Lib.hid (B1.out.trans (b2.mono B1.out.size))
    have H2 := Lib.hid (H1.out.keep b2)
    have HA := Lib.hid ha
    clear b2 hp ha
    generalize hpe : putE l = pe at *
    have HPE := Lib.hid hpe
    clear hpe
    go_wp2_with fail
    refine (rput_any _ _ l H2.out HS.out).mono ?_
    rintro e w3 ⟨vb, eb, rfl, hp, b3⟩
    obtain ⟨he, hb⟩ := hp.eq
    rw [HPE.out] at he
    subst he
    have B3 := Lib.hid (B2.out.trans (b3.mono B2.out.size))
    have cv1 := conv_lb (HA.out.keep b3)
    have cv2 := conv_lb hb
    clear b3 hp hb
    generalize strOfNums (putL l) = S at cv1 cv2
    have hS := byteArray_beq S
    go_wp2_with fail
    go_ret
    exact ⟨rfl, B3.out⟩
  · rw [hf]
    clear hf
    go_wp2_with fail
    go_ret
    exact ⟨rfl, B1.out⟩
set_option maxHeartbeats 2000000 in
theorem opTakes_law (w : World) (v : Value) (xs : List Int) (hl : LB w v xs) (hb : Bytes xs) : Calls Try.prog 4 #[v] w fun e w' => e = .returned (.bool true) ∧ Below w.heap.size w w' := by
  have H := Lib.hid hl
  have HB := Lib.hid hb
  obtain ⟨A, c, rfl, hc, hm, _, _⟩ := hl
  clear hb
  go_enter Try.func4, Try.ntmps4
  go_wp2_with fail
  refine (awake_any _).mono ?_
  rintro e w1 ⟨rfl, b1⟩
  have B1 := Lib.hid b1
  have H1 := Lib.hid (H.out.keep b1)
  clear b1
  by_cases h600 : xs.length ≤ 600
  · have h600' : (xs.length : Int) ≤ 600 := by omega
    go_wp2_with fail
    refine (take_any _ _ xs H1.out HB.out (by omega)).mono ?_
    rintro e w2 ⟨va, na, ea, rfl, ht, b2⟩
    obtain ⟨rfl, rfl, ha⟩ := ht.eq
    have B2 := Lib.hid (B1.out.trans (b2.mono B1.out.size))
    have H2 := Lib.hid (H1.out.keep b2)
    have HA := Lib.hid ha
    clear b2 ht ha
    generalize hpe : takeE xs = pe at *
    have HPE := Lib.hid hpe
    clear hpe
    generalize hpn : takeN xs = pn at *
    have HPN := Lib.hid hpn
    clear hpn
    go_wp2_with fail
    refine (rtake_any _ _ xs H2.out HB.out (by omega)).mono ?_
    rintro e w3 ⟨vb, nb, eb, rfl, ht, b3⟩
    obtain ⟨he, hn, hov⟩ := ht.eq
    rw [HPE.out] at he
    rw [HPN.out] at hn
    subst he
    subst hn
    have B3 := Lib.hid (B2.out.trans (b3.mono B2.out.size))
    have HA3 := Lib.hid (HA.out.keep b3)
    have HB3 := Lib.hid hov
    clear b3 ht hov
    go_wp2_with fail
    refine (same_any _ _ _ _ HA3.out HB3.out).mono ?_
    rintro e w4 ⟨rfl, b4⟩
    have B4 := Lib.hid (B3.out.trans (b4.mono B3.out.size))
    clear b4
    go_wp2_with fail
    go_ret
    exact ⟨rfl, B4.out⟩
  · have h600' : (600 : Int) < xs.length := by omega
    go_wp2_with fail
    go_ret
    exact ⟨rfl, B1.out⟩
end Go.Proofs.Ytamaocdchlioaaa
