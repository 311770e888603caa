/- A law of almerylaw19: OpBack. -/
import Derived.Test.YtamaocdchlioaaaOp16
import Derived.Lib.QuietBelow
namespace Go.Proofs.Ytamaocdchlioaaa
open Go.RowKit
set_option linter.unusedVariables false

/-- the first bytes of a list -/
theorem lb_take {w : World} {ad : Option Addr} {n c : Nat} {xs : List Int} (h : LB w (.slice ad n c) xs) (a : Nat) (ha : a ≤ n) : LB w (.slice ad a c) (xs.take a) := by
  obtain ⟨a', c', hv, h1, h2, h3, h4⟩ := h
  injection hv with e1 e2 e3
  subst e1
  subst e2
  subst e3
  have hl : (xs.take a).length = a := by rw [List.length_take]; omega
  refine ⟨_, _, by rw [hl], by omega, h2, h3, ?_⟩
  exact h4.take a
theorem putL_ok {l : List POp} (h : allMayB l = true) : putL l = encL l ∧ putE l = 0 := by
  unfold putL putE
  rw [if_pos h, if_pos h]
  exact ⟨rfl, rfl⟩
theorem putL_no {l : List POp} (h : allMayB l = false) : putL l = [] ∧ putE l = 2 := by
  unfold putL putE
  rw [h]
  exact ⟨rfl, rfl⟩
theorem allOk_of {l : List POp} (hk : ∀ q ∈ l, POk q) (h : allMayB l = true) : AllOk l := fun p hp => by
  obtain ⟨i, hi, rfl⟩ := List.getElem_of_mem hp
  have h1 := allMayB_iff.1 h i hi
  have : l.getD i op0 = l[i] := by simp [List.getD, hi]
  rw [this] at h1
  exact ⟨hk _ hp, h1⟩
theorem allMayB_of {l : List POp} (h : AllOk l) : allMayB l = true := allMayB_iff.2 (allMay_of_ok h)
theorem take_all {xs : List Int} (h : (takes xs).2 = xs.length) : takeE xs = 0 ∧ takeN xs = 0 ∧ takeL xs = (takes xs).1 := by
  unfold takeE takeN takeL
  rw [if_pos h, if_pos h, if_pos h]
  exact ⟨rfl, rfl, rfl⟩
theorem take_some {xs : List Int} (h : ¬ (takes xs).2 = xs.length) : takeE xs = 2 ∧ takeN xs = (takes xs).2 ∧ takeL xs = [] := by
  unfold takeE takeN takeL
  rw [if_neg h, if_neg h, if_neg h]
  exact ⟨rfl, rfl, rfl⟩
theorem back_all {l : List POp} (h : AllOk l) : takeE (encL l) = 0 ∧ takeN (encL l) = 0 ∧ takeL (encL l) = l := by
  have h1 := takes_enc0 l h
  have h2 := take_all (xs := encL l) (by rw [h1])
  rw [h1] at h2
  exact h2
set_option maxRecDepth 100000 in
set_option maxHeartbeats 4000000 in
theorem opBack_law (w : World) (v : Value) (l : List POp) (cut : Int) (hl : OV w v l) (hok : ∀ q ∈ l, POk q) (hc : 0 ≤ cut ∧ cut ≤ 65535) : Calls Try.prog 5 #[v, .int .u16 cut] w fun e w' => e = .returned (.bool true) ∧ Below w.heap.size w w' := by
  have H := Lib.hid hl
  have HK := Lib.hid hok
  obtain ⟨A, c, rfl, _, _, _, _⟩ := hl
  clear hok
  go_enter Try.func5, Try.ntmps5
  go_wp2_with fail
  refine (awake_any _).mono ?_
  rintro e w1 ⟨rfl, b1⟩
  have B1 := Lib.hid b1
  have H1 := Lib.hid (H.out.keep b1)
  clear b1
  go_wp2_with fail
  refine (few_any _ _ l H1.out).mono ?_
  rintro e w2 ⟨rfl, rfl⟩
  have hab : fewB l = true ∨ fewB l = false := by cases fewB l <;> simp
  rcases hab with hf | hf
  · rw [hf]
    have HS := Lib.hid (small_of_few hf)
    have HFL := Lib.hid (few_len hf)
    clear hf
    go_wp2_with fail
    refine (put_any _ _ l H1.out HS.out).mono ?_
    rintro e w2 ⟨va, ea, rfl, hp, b2⟩
    obtain ⟨rfl, ha⟩ := hp.eq
    have B2 := Lib.hid (B1.out.trans (b2.mono B1.out.size))
    have H2 := Lib.hid (H1.out.keep b2)
    clear b2 hp
    have hm : allMayB l = true ∨ allMayB l = false := by cases allMayB l <;> simp
    rcases hm with hm | hm
    · rw [(putL_ok hm).2]
      rw [(putL_ok hm).1] at ha
      have HOK := Lib.hid (allOk_of HK.out hm)
      obtain ⟨xs, hxs⟩ : ∃ xs, xs = encL l := ⟨_, rfl⟩
      rw [← hxs] at ha
      have HXS := Lib.hid hxs
      have hbx : Bytes xs := by rw [hxs]; exact bytes_encL l (fun p hp => (HOK.out p hp).1.d)
      have HBX := Lib.hid hbx
      have hlx : xs.length ≤ 13080 := by rw [hxs]; exact HFL.out
      have HA := Lib.hid ha
      obtain ⟨ad, cd, rfl, hcd, hcm, _, _⟩ := ha
      obtain ⟨n, hn⟩ : ∃ n, n = xs.length := ⟨_, rfl⟩
      rw [← hn] at HA hlx hcd ⊢
      have HN := Lib.hid hn
      clear hm hxs hbx hn
      unfold maxLen at hcm
      go_wp2_with fail
      refine (take_any _ _ xs HA.out HBX.out (by rw [← HN.out]; omega)).mono ?_
      rintro e w3 ⟨vk, nk, ek, rfl, ht, b3⟩
      obtain ⟨he, hnk, hov⟩ := ht.eq
      rw [HXS.out, (back_all HOK.out).1] at he
      rw [HXS.out, (back_all HOK.out).2.1] at hnk
      rw [HXS.out, (back_all HOK.out).2.2] at hov
      subst he
      obtain rfl : nk = 0 := hnk
      have B3 := Lib.hid (B2.out.trans (b3.mono B2.out.size))
      have H3 := Lib.hid (H2.out.keep b3)
      have HA3 := Lib.hid (HA.out.keep b3)
      have HK3 := Lib.hid hov
      clear b3 ht hov
      obtain ⟨a, ha⟩ : ∃ a : Nat, (a : Int) = cut % ((n : Int) + 1) := ⟨(cut % ((n : Int) + 1)).toNat, Int.toNat_of_nonneg (Int.emod_nonneg _ (by omega))⟩
      have han : a ≤ n := by have := Int.emod_lt_of_pos cut (show (0 : Int) < (n : Int) + 1 by omega); omega
      have hea : cut % ((n : Int) + 1) = (a : Int) := ha.symm
      have HT := Lib.hid (lb_take HA3.out a han)
      have hta : (xs.take a).length = a := by rw [List.length_take, ← HN.out]; omega
      have HET := Lib.hid (enc_takes (xs.take a).length (xs.take a) (Nat.le_refl _) (bytes_take HBX.out a))
      have HTA := Lib.hid hta
      have hac : (a : Int) ≤ (cd : Int) := by omega
      clear ha hta
      go_wp2_with fail
      generalize cut % ((n : Int) + 1) = E at hea ⊢
      subst hea
      refine (take_any _ _ (xs.take a) HT.out (bytes_take HBX.out a) (by rw [HTA.out]; omega)).mono ?_
      rintro e w4 ⟨vx, nx, ex, rfl, ht, b4⟩
      obtain ⟨rfl, rfl, hov⟩ := ht.eq
      have B4 := Lib.hid (B3.out.trans (b4.mono B3.out.size))
      have H4 := Lib.hid (H3.out.keep b4)
      have HA4 := Lib.hid (HA3.out.keep b4)
      have HT4 := Lib.hid (HT.out.keep b4)
      have HK4 := Lib.hid (HK3.out.keep b4)
      clear b4 ht
      by_cases hall : (takes (xs.take a)).2 = (xs.take a).length
      · have hta := take_all hall
        rw [hta.1, hta.2.1]
        rw [hta.2.2] at hov
        have HX4 := Lib.hid hov
        have HEX : Hid (encL (takes (xs.take a)).1 = xs.take a) := Lib.hid (by have := HET.out.1; rw [hall, List.take_length] at this; exact this)
        have HOX := Lib.hid HET.out.2.2.1
        clear hall hta hov
        go_wp2_with fail
        refine (put_any _ _ (takes (xs.take a)).1 HX4.out (small_of_len (by rw [HEX.out, HTA.out]; omega))).mono ?_
        rintro e w5 ⟨vy, ey, rfl, hp, b5⟩
        obtain ⟨_, hy⟩ := hp.eq
        rw [(putL_ok (allMayB_of HOX.out)).1, HEX.out] at hy
        have B5 := Lib.hid (B4.out.trans (b5.mono B4.out.size))
        have H5 := Lib.hid (H4.out.keep b5)
        have HT5 := Lib.hid (HT4.out.keep b5)
        have HK5 := Lib.hid (HK4.out.keep b5)
        have HY5 := Lib.hid hy
        clear b5 hp hy
        obtain ⟨S, hS⟩ : ∃ S, S = strOfNums (xs.take a) := ⟨_, rfl⟩
        have cv1 : ∀ (d : Nat) (os : Array Obj), (convert 25 9 vy).run Try.prog (Go.Sort.grow (redrawn w5 d) os) = .ok (.string S) (Go.Sort.grow (redrawn w5 d) os) := fun d os => by rw [hS]; exact conv_lb (HY5.out.keep (below_regrown w5 d os))
        have cv2 : ∀ (d : Nat) (os : Array Obj), (convert 25 9 (.slice ad a cd)).run Try.prog (Go.Sort.grow (redrawn w5 d) os) = .ok (.string S) (Go.Sort.grow (redrawn w5 d) os) := fun d os => by rw [hS]; exact conv_lb (HT5.out.keep (below_regrown w5 d os))
        have n4 : (S == S) = true := byteArray_beq S
        have HQ := Lib.hid (fun (d : Nat) (os : Array Obj) => Calls.regrown_of (same_any (Go.Sort.grow (redrawn w5 d) os) _ _ _ (HK5.out.keep (below_regrown w5 d os)) (H5.out.keep (below_regrown w5 d os))))
        have hEY := (putL_ok (allMayB_of HOX.out)).2
        generalize putE (takes (xs.take a)).1 = ey at hEY ⊢
        subst hEY
        clear hS
        go_wp2_with fail
        refine wp_region_quiet_below (by kernel_rfl) (by kernel_rfl) ?_
        repeat (first | go_big_quiet_step (exact HQ.out _ _) | quiet_step (exact HQ.out _ _))
        refine wpQuiet_nil ?_
        intro _ hw'
        obtain ⟨⟨dq, osq⟩, hw''⟩ := hw'
        subst hw''
        have B6 := B5.out.trans ((below_regrown w5 dq osq).mono B5.out.size)
        clear cv1 cv2
        go_wp2_with fail
        go_ret
        exact ⟨rfl, B6⟩
      · have hta := take_some hall
        rw [hta.1, hta.2.1]
        have hle := HET.out.2.1
        rw [HTA.out] at hle hall
        have hlt : ((takes (xs.take a)).2 : Int) < (a : Int) := by omega
        generalize (takes (xs.take a)).2 = t at hlt
        clear hall hta hov hle
        go_wp2_with fail
        refine (same_any _ _ _ _ HK4.out H4.out).mono ?_
        rintro e w5 ⟨rfl, b5⟩
        have B5 := Lib.hid (B4.out.trans (b5.mono B4.out.size))
        clear b5
        go_wp2_with fail
        go_ret
        exact ⟨rfl, B5.out⟩
    · rw [(putL_no hm).2]
      rw [(putL_no hm).1] at ha
      obtain ⟨ad, cd, rfl, _, _, _, _⟩ := ha
      clear hm
      go_wp2_with fail
      go_ret
      exact ⟨rfl, B2.out⟩
  · rw [hf]
    clear hf
    go_wp2_with fail
    go_ret
    exact ⟨rfl, B1.out⟩
end Go.Proofs.Ytamaocdchlioaaa
