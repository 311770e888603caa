/- A law of almerylaw19: OpOne. -/
import Derived.Test.YtamaocdchlioaaaOp17
namespace Go.Proofs.Ytamaocdchlioaaa
open Go.RowKit
set_option linter.unusedVariables false

set_option maxRecDepth 100000 in
set_option maxHeartbeats 4000000 in
theorem opOne_law (w : World) (v : Value) (xs : List Int) (hl : LB w v xs) (hb : Bytes xs) : Calls Try.prog 6 #[v] w fun e w' => e = .returned (.bool true) ∧ Below w.heap.size w w' := by
  have H := Lib.hid hl
  have HB := Lib.hid hb
  obtain ⟨A, c, rfl, hc, hm, _, _⟩ := hl
  clear hb
  unfold maxLen at hm
  obtain ⟨n, hn⟩ : ∃ n, n = xs.length := ⟨_, rfl⟩
  rw [← hn] at H hc ⊢
  have HN := Lib.hid hn
  clear hn
  go_enter Try.func6, Try.ntmps6
  go_wp2_with fail
  refine (awake_any _).mono ?_
  rintro e w1 ⟨rfl, b1⟩
  have B1 := Lib.hid b1
  have H1 := Lib.hid (H.out.keep b1)
  clear b1
  by_cases h600 : n ≤ 600
  · have h600' : (n : Int) ≤ 600 := by omega
    have HET := Lib.hid (enc_takes xs.length xs (Nat.le_refl _) HB.out)
    go_wp2_with fail
    refine (take_any _ _ xs H1.out HB.out (by rw [← HN.out]; omega)).mono ?_
    rintro e w2 ⟨va, na, ea, rfl, ht, b2⟩
    obtain ⟨rfl, rfl, ha⟩ := ht.eq
    have B2 := Lib.hid (B1.out.trans (b2.mono B1.out.size))
    have H2 := Lib.hid (H1.out.keep b2)
    clear b2 ht
    by_cases hall : (takes xs).2 = xs.length
    · have hta := take_all hall
      rw [hta.1, hta.2.1]
      rw [hta.2.2] at ha
      have HA := Lib.hid ha
      have HEX : Hid (encL (takes xs).1 = xs) := Lib.hid (by have := HET.out.1; rw [hall, List.take_length] at this; exact this)
      have HOX := Lib.hid HET.out.2.2.1
      clear hall hta ha
      go_wp2_with fail
      refine (put_any _ _ (takes xs).1 HA.out (small_of_len (by rw [HEX.out, ← HN.out]; omega))).mono ?_
      rintro e w3 ⟨vy, ey, rfl, hp, b3⟩
      obtain ⟨hey, hy⟩ := hp.eq
      rw [(putL_ok (allMayB_of HOX.out)).2] at hey
      rw [(putL_ok (allMayB_of HOX.out)).1, HEX.out] at hy
      subst hey
      have B3 := Lib.hid (B2.out.trans (b3.mono B2.out.size))
      have cv1 := conv_lb hy
      have cv2 := conv_lb (H2.out.keep b3)
      clear b3 hp hy
      generalize strOfNums xs = S at cv1 cv2
      have n4 : (S == S) = true := byteArray_beq S
      go_wp2_with fail
      go_ret
      exact ⟨rfl, B3.out⟩
    · have hta := take_some hall
      rw [hta.1, hta.2.1]
      rw [hta.2.2] at ha
      obtain ⟨aL, cL, hva, _, _, _, _⟩ := ha
      have hva' : va = .slice aL 0 cL := hva
      subst hva'
      obtain ⟨a, hae⟩ : ∃ a, a = (takes xs).2 := ⟨_, rfl⟩
      have hal : a < n := by have := HET.out.2.1; have := HN.out; omega
      have HTK : Hid (takes (xs.take a) = ((takes xs).1, (xs.take a).length)) := Lib.hid (by
        have h1 := HET.out.1
        rw [← hae] at h1
        have h2 := takes_enc0 _ HET.out.2.2.1
        rw [h1] at h2
        exact h2)
      have HEX : Hid (encL (takes xs).1 = xs.take a) := Lib.hid (by have h1 := HET.out.1; rw [← hae] at h1; exact h1)
      have HOX := Lib.hid HET.out.2.2.1
      rw [← hae]
      have HT := Lib.hid (lb_take H2.out a (by omega))
      have HTA : Hid ((xs.take a).length = a) := Lib.hid (by rw [List.length_take, ← HN.out]; omega)
      have hac : (a : Int) ≤ (c : Int) := by omega
      have hal' : (a : Int) < (n : Int) := by omega
      clear hall hta hva hae
      go_wp2_with fail
      refine (take_any _ _ (xs.take a) HT.out (bytes_take HB.out a) (by rw [HTA.out]; omega)).mono ?_
      rintro e w3 ⟨vk, nk, ek, rfl, ht, b3⟩
      obtain ⟨rfl, rfl, hk⟩ := ht.eq
      have htk := take_all (xs := xs.take a) (by rw [HTK.out])
      rw [htk.1, htk.2.1]
      rw [htk.2.2, HTK.out] at hk
      have B3 := Lib.hid (B2.out.trans (b3.mono B2.out.size))
      have HT3 := Lib.hid (HT.out.keep b3)
      have HK3 := Lib.hid hk
      clear b3 ht htk hk
      go_wp2_with fail
      refine (put_any _ _ (takes xs).1 HK3.out (small_of_len (by rw [HEX.out, HTA.out]; omega))).mono ?_
      rintro e w4 ⟨vy, ey, rfl, hp, b4⟩
      obtain ⟨hey, hy⟩ := hp.eq
      rw [(putL_ok (allMayB_of HOX.out)).2] at hey
      rw [(putL_ok (allMayB_of HOX.out)).1, HEX.out] at hy
      subst hey
      have B4 := Lib.hid (B3.out.trans (b4.mono B3.out.size))
      have HT4 := Lib.hid (HT3.out.keep b4)
      have HY4 := Lib.hid hy
      clear b4 hp hy
      obtain ⟨S, hS⟩ : ∃ S, S = strOfNums (xs.take a) := ⟨_, rfl⟩
      have cv1 : ∀ n, (convert 25 9 vy).run Try.prog (w4.drewN n) = .ok (.string S) (w4.drewN n) := fun n => by rw [hS]; exact conv_lb (HY4.out.keep (below_drewN (Below.refl _ _) n))
      have cv2 : ∀ n, (convert 25 9 (.slice A a c)).run Try.prog (w4.drewN n) = .ok (.string S) (w4.drewN n) := fun n => by rw [hS]; exact conv_lb (HT4.out.keep (below_drewN (Below.refl _ _) n))
      have n4 : (S == S) = true := byteArray_beq S
      clear hS
      go_wp2_with fail
      go_quiet (fail)
      clear cv1 cv2
      go_wp2_with fail
      go_ret
      exact ⟨rfl, below_drewN B4.out _⟩
  · have h600' : (600 : Int) < n := by omega
    go_wp2_with fail
    go_ret
    exact ⟨rfl, B1.out⟩
end Go.Proofs.Ytamaocdchlioaaa
