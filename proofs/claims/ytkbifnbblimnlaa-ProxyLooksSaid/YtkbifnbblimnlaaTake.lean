/- The contracts of proxy's Take and Give. -/
import Derived.Test.YtkbifnbblimnlaaLook
namespace Go.Proofs.Ytkbifnbblimnlaa
open Go.RowKit
set_option linter.unusedVariables false

theorem take_none (w : World) (g gs n : Nat) (gens : Int) (wh gn nx : Nat → Int) (m0 m1 m2 : Int) (h : TS w g gs n gens wh gn nx n m0 m1 m2) :
    Calls Try.prog 17 #[ptr g] w fun e w' => e = .returned (.tuple #[.int .i64 0, .int .i64 0, .int .i64 4]) ∧ Keep (fun _ => False) w w' := by
  have c0 := blk_cell h.1 0
  have c2 := blk_cell h.1 2
  have hn := h.2.2.2
  clear h
  go_enter Try.func17, Try.ntmps17
  go_wp2_with fail
  go_quiet (fail)
  go_wp2_with fail
  go_ret3
  exact ⟨rfl, (Keep.refl _ w).drewN nq⟩
set_option maxHeartbeats 1000000 in
theorem take_some (w : World) (g gs n i : Nat) (gens : Int) (wh gn nx : Nat → Int) (m0 m1 m2 : Int) (h : TS w g gs n gens wh gn nx i m0 m1 m2) (hi : i < n) (hw : wh i = 0) (hg : 1 ≤ gn i ∧ gn i ≤ 1023) (h0 : 0 ≤ m0 ∧ m0 ≤ 5000) (h1 : 0 ≤ m1 ∧ m1 ≤ 5000) (h2 : 0 ≤ m2 ∧ m2 ≤ 5000) :
    Calls Try.prog 17 #[ptr g] w fun e w' => e = .returned (.tuple #[.int .i64 (gn i * 4096 + i), .int .i64 i, .int .i64 0]) ∧ TS w' g gs n gens (upd wh i 1) gn nx (nx i) (m0 - 1) (m1 + 1) m2 ∧ Keep (fun k => k = g ∨ k = gs) w w' := by
  have c0 := blk_cell h.1 0
  have c2 := blk_cell h.1 2
  have hn := h.2.2.2
  have hne := h.2.2.1
  have HT := Lib.hid h
  have e0 : ((i : Int) == (n : Int)) = false := beq_eq_false_iff_ne.2 (by omega)
  have hmf : ∀ (fn : Fn) (first cap : Array Value) (w : World), (Instr.makeFunc fn first cap).run Try.prog w = .ok (.func fn first cap) w := fun _ _ _ _ => rfl
  have HW := Lib.hid hw
  clear h hw
  go_enter Try.func17, Try.ntmps17
  go_wp2_with fail
  go_quiet (fail)
  go_wp2_with fail
  refine (turn01 _ g gs n i gens wh gn nx i m0 m1 m2 (HT.out.keep ((Keep.refl (fun _ => False) w).drewN nq) (fun h => h) (fun h => h)) hi HW.out h0 h1 h2).mono ?_
  rintro e w2 ⟨rfl, t2, k2⟩
  have hne' : gs ≠ g := fun h => hne h.symm
  have c0' := blk_cell t2.1 0
  have c2' := blk_cell t2.1 2
  have f2' := blk_frozen t2.1 2
  have x1 := row_cell (i := i * 3 + 1) t2.2.1 (by omega)
  have x2 := row_cell (i := i * 3 + 2) t2.2.1 (by omega)
  rw [tf_gn] at x1
  rw [tf_nx] at x2
  have T2 := Lib.hid t2
  have K2 := Lib.hid (((Keep.refl (fun k => k = g ∨ k = gs) w).drewN nq).trans k2)
  clear t2 k2 c0 c2
  go_wp2_with fail
  refine (join_yes _ i (gn i) ⟨by omega, by omega, hg.1, hg.2⟩).mono ?_
  rintro e w3 ⟨rfl, b3⟩
  have k3 : Keep (fun k => k = g ∨ k = gs) w2 (w2.setCell ⟨g, 2, none⟩ (.int .i64 (nx i))) := (Keep.refl _ w2).setCell (.inl (.inl rfl)) _
  have t3 : TS (w2.setCell ⟨g, 2, none⟩ (.int .i64 (nx i))) g gs n gens (upd wh i 1) gn nx (nx i) (m0 - 1) (m1 + 1) m2 :=
    ⟨by simpa using blk_set T2.out.1 2 (.int .i64 (nx i)), row_far (p := ⟨g, 2, none⟩) T2.out.2.1 hne' _, hne, hn⟩
  have T4 := Lib.hid (t3.below b3)
  have K4 := Lib.hid ((K2.out.trans k3).trans (Keep.of_below (b3 : Below (w2.setCell ⟨g, 2, none⟩ (.int .i64 (nx i))).heap.size _ w3)))
  clear t3 k3
  go_wp2_with fail
  go_ret3
  exact ⟨rfl, T4.out, K4.out⟩

theorem give_bad (w : World) (g gs n : Nat) (gens : Int) (wh gn nx : Nat → Int) (head m0 m1 m2 h : Int) (ht : TS w g gs n gens wh gn nx head m0 m1 m2) (hl : -9223372036854775808 ≤ h ∧ h ≤ 9223372036854775807) (hb : (lookS n (fun i => wh i == 1) gn h).2 ≠ 0) :
    Calls Try.prog 18 #[ptr g, .int .i64 h] w fun e w' => e = .returned (.int .i64 (lookS n (fun i => wh i == 1) gn h).2) ∧ Below w.heap.size w w' := by
  have HL := Lib.hid (look_any w g gs n gens wh gn nx head m0 m1 m2 h ht hl)
  generalize lookS n (fun i => wh i == 1) gn h = r at HL hb ⊢
  obtain ⟨r1, r2⟩ := r
  have e0 : (r2 != 0) = true := by simpa using hb
  simp only at HL ⊢
  clear hb
  go_enter Try.func18, Try.ntmps18
  go_wp2_with fail
  refine HL.out.mono ?_
  rintro e w1 ⟨rfl, b1⟩
  go_wp2_with fail
  go_ret
  exact ⟨rfl, b1⟩
theorem lookS_ok {n : Nat} {lv : Nat → Bool} {gn : Nat → Int} {h : Int} (hb : (lookS n lv gn h).2 = 0) : ∃ s : Nat, s < n ∧ h % 4096 = s ∧ gn s = h / 4096 ∧ lv s = true ∧ lookS n lv gn h = ((s : Int), 0) ∧ 4096 ≤ h ∧ h < 4194304 := by
  by_cases h1 : h < 4096 ∨ 4194304 ≤ h
  · rw [lookS_out h1] at hb; cases hb
  · by_cases h2 : (n : Int) ≤ h % 4096
    · rw [lookS_far h1 h2] at hb; cases hb
    · obtain ⟨s, hs⟩ : ∃ s : Nat, h % 4096 = s := ⟨(h % 4096).toNat, by omega⟩
      have h3 : s < n := by omega
      have e := lookS_in (lv := lv) (gn := gn) h1 hs h3
      rw [e] at hb
      by_cases h4 : h / 4096 < gn s
      · rw [if_pos h4] at hb; cases hb
      · rw [if_neg h4] at hb e
        by_cases h5 : gn s < h / 4096 ∨ lv s = false
        · rw [if_pos h5] at hb; cases hb
        · rw [if_neg h5] at e
          refine ⟨s, h3, hs, by omega, ?_, e, by omega, by omega⟩
          cases hq : lv s with
          | true => rfl
          | false => exact absurd (.inr hq) h5

set_option maxHeartbeats 2000000 in
theorem give_over (w : World) (g gs n i : Nat) (gens : Int) (wh gn nx : Nat → Int) (head m0 m1 m2 h : Int) (ht : TS w g gs n gens wh gn nx head m0 m1 m2) (hl : -9223372036854775808 ≤ h ∧ h ≤ 9223372036854775807) (hi : i < n) (hk : lookS n (fun i => wh i == 1) gn h = ((i : Int), 0)) (hw : wh i = 1)
    (hg : 1 ≤ gn i ∧ gn i ≤ 1023) (hgg : gens < gn i + 1) (hge : gens ≤ 1023) (h0 : 0 ≤ m0 ∧ m0 ≤ 4999) (h1 : 0 ≤ m1 ∧ m1 ≤ 4999) (h2 : 0 ≤ m2 ∧ m2 ≤ 4999) :
    Calls Try.prog 18 #[ptr g, .int .i64 h] w fun e w' => e = .returned (.int .i64 0) ∧ TS w' g gs n gens (upd wh i 2) (upd gn i (gn i + 1)) nx head m0 (m1 - 1) (m2 + 1) ∧ Keep (fun k => k = g ∨ k = gs) w w' := by
  have HL := look_any w g gs n gens wh gn nx head m0 m1 m2 h ht hl
  rw [hk] at HL
  have HLH := Lib.hid HL
  have HT := Lib.hid ht
  have hn := ht.2.2.2
  have hne := ht.2.2.1
  have hne' : gs ≠ g := fun h => hne h.symm
  have HW := Lib.hid hw
  obtain ⟨gi, hgi⟩ : ∃ gi, gi = gn i := ⟨_, rfl⟩
  rw [← hgi] at hg hgg ⊢
  have HG := Lib.hid hgi
  clear HL ht hw hk hgi
  go_enter Try.func18, Try.ntmps18
  go_wp2_with fail
  refine HLH.out.mono ?_
  rintro e w1 ⟨rfl, b1⟩
  have t1 := HT.out.below b1
  have K1 := Lib.hid (Keep.of_below b1 : Keep (fun k => k = g ∨ k = gs) w w1)
  have c0 := blk_cell t1.1 0
  have c1 := blk_cell t1.1 1
  have x1 := row_cell (i := i * 3 + 1) t1.2.1 (by omega)
  have y1 := row_frozen t1.2.1 (i * 3 + 1)
  rw [tf_gn, ← HG.out] at x1
  have T1 := Lib.hid t1
  clear t1
  go_wp2_with fail
  go_quiet (fail)
  go_wp2_with fail
  have t2 : TS ((w1.setCell ⟨gs, i * 3 + 1, none⟩ (.int .i64 (gi + 1))).drewN nq) g gs n gens wh (upd gn i (gi + 1)) nx head m0 m1 m2 :=
    ⟨blk_far (p := ⟨gs, i * 3 + 1, none⟩) T1.out.1 hne _, row_ext (row_set T1.out.2.1 (i * 3 + 1) (.int .i64 (gi + 1))) (fun j _ => tf_set_gn wh gn nx i (gi + 1) j), hne, hn⟩
  have K2 := Lib.hid (((K1.out.setCell (p := ⟨gs, i * 3 + 1, none⟩) (.inl (.inr rfl)) (.int .i64 (gi + 1)))).drewN nq)
  refine (turn12 _ g gs n i gens wh (upd gn i (gi + 1)) nx head m0 m1 m2 t2 hi HW.out (by omega) (by omega) (by omega)).mono ?_
  rintro e w3 ⟨rfl, t3, k3⟩
  have K3 := Lib.hid (K2.out.trans k3)
  have T3 := Lib.hid t3
  clear t2 t3 k3
  go_wp2_with fail
  go_ret
  exact ⟨rfl, T3.out, K3.out⟩

set_option maxHeartbeats 2000000 in
theorem give_free (w : World) (g gs n i : Nat) (gens : Int) (wh gn nx : Nat → Int) (head m0 m1 m2 h : Int) (ht : TS w g gs n gens wh gn nx head m0 m1 m2) (hl : -9223372036854775808 ≤ h ∧ h ≤ 9223372036854775807) (hi : i < n) (hk : lookS n (fun i => wh i == 1) gn h = ((i : Int), 0)) (hw : wh i = 1)
    (hg : 1 ≤ gn i ∧ gn i ≤ 1023) (hgg : gn i + 1 ≤ gens) (hge : gens ≤ 1023) (h0 : 0 ≤ m0 ∧ m0 ≤ 4999) (h1 : 0 ≤ m1 ∧ m1 ≤ 4999) (h2 : 0 ≤ m2 ∧ m2 ≤ 4999) :
    Calls Try.prog 18 #[ptr g, .int .i64 h] w fun e w' => e = .returned (.int .i64 0) ∧ TS w' g gs n gens (upd wh i 0) (upd gn i (gn i + 1)) (upd nx i head) i (m0 + 1) (m1 - 1) m2 ∧ Keep (fun k => k = g ∨ k = gs) w w' := by
  have HL := look_any w g gs n gens wh gn nx head m0 m1 m2 h ht hl
  rw [hk] at HL
  have HLH := Lib.hid HL
  have HT := Lib.hid ht
  have hn := ht.2.2.2
  have hne := ht.2.2.1
  have hne' : gs ≠ g := fun h => hne h.symm
  have HW := Lib.hid hw
  obtain ⟨gi, hgi⟩ : ∃ gi, gi = gn i := ⟨_, rfl⟩
  rw [← hgi] at hg hgg ⊢
  have HG := Lib.hid hgi
  clear HL ht hw hk hgi
  go_enter Try.func18, Try.ntmps18
  go_wp2_with fail
  refine HLH.out.mono ?_
  rintro e w1 ⟨rfl, b1⟩
  have t1 := HT.out.below b1
  have K1 := Lib.hid (Keep.of_below b1 : Keep (fun k => k = g ∨ k = gs) w w1)
  have c0 := blk_cell t1.1 0
  have c1 := blk_cell t1.1 1
  have x1 := row_cell (i := i * 3 + 1) t1.2.1 (by omega)
  have y1 := row_frozen t1.2.1 (i * 3 + 1)
  rw [tf_gn, ← HG.out] at x1
  have T1 := Lib.hid t1
  clear t1
  go_wp2_with fail
  go_quiet (fail)
  go_wp2_with fail
  have t2 : TS ((w1.setCell ⟨gs, i * 3 + 1, none⟩ (.int .i64 (gi + 1))).drewN nq) g gs n gens wh (upd gn i (gi + 1)) nx head m0 m1 m2 :=
    ⟨blk_far (p := ⟨gs, i * 3 + 1, none⟩) T1.out.1 hne _, row_ext (row_set T1.out.2.1 (i * 3 + 1) (.int .i64 (gi + 1))) (fun j _ => tf_set_gn wh gn nx i (gi + 1) j), hne, hn⟩
  have K2 := Lib.hid (((K1.out.setCell (p := ⟨gs, i * 3 + 1, none⟩) (.inl (.inr rfl)) (.int .i64 (gi + 1)))).drewN nq)
  refine (turn10 _ g gs n i gens wh (upd gn i (gi + 1)) nx head m0 m1 m2 t2 hi HW.out (by omega) (by omega) (by omega)).mono ?_
  rintro e w3 ⟨rfl, t3, k3⟩
  have K3 := Lib.hid (K2.out.trans k3)
  have T3 := Lib.hid t3
  have c2 := blk_cell t3.1 2
  have f2 := blk_frozen t3.1 2
  have x2 := row_cell (i := i * 3 + 2) t3.2.1 (by omega)
  have y2 := row_frozen t3.2.1 (i * 3 + 2)
  rw [tf_nx] at x2
  clear t2 t3 k3
  go_wp2_with fail
  first | go_ret | (go_region; go_wp2_with fail; go_ret)
  refine ⟨rfl, ⟨?_, ?_, hne, hn⟩, ?_⟩
  · have q1 := blk_far (p := ⟨gs, i * 3 + 2, none⟩) T3.out.1 hne (.int .i64 head)
    simpa using blk_set q1 2 (.int .i64 i)
  · exact row_ext (row_far (p := ⟨g, 2, none⟩) (row_set T3.out.2.1 (i * 3 + 2) (.int .i64 head)) hne' (.int .i64 i)) (fun j _ => tf_set_nx (upd wh i 0) (upd gn i (gi + 1)) nx i head j)
  · first
      | exact (K3.out.setCell (.inl (.inr rfl)) _).setCell (.inl (.inl rfl)) _
      | exact ((K3.out.setCell (.inl (.inr rfl)) _).setCell (.inl (.inl rfl)) _).drew
end Go.Proofs.Ytkbifnbblimnlaa
