/- The laws of almerylaw18. -/
import Derived.Test.YtigojdhhgdfnkaaBound5
import Derived.Test.YtigojdhhgdfnkaaRBound
namespace Go.Proofs.Ytigojdhhgdfnkaa
open Go.RowKit Go.Sort
set_option linter.unusedVariables false

def smallC : Cf := ⟨64, 9, [32], [2], 8, 4, 3, 512⟩
theorem smallC_ok : OkMay smallC := ⟨by decide, by decide, by decide, by decide, by decide, fun i hi => by
  have : i = 0 := by
    have h : i < 1 := hi
    omega
  subst this
  decide, by decide, by decide, by decide⟩
theorem CV.vals {w : World} {v : Value} {c : Cf} (h : CV w v c) : ∃ ac cc ak ck, v = .agg #[.int .i64 c.size, .int .i64 c.pages, .slice ac c.classes.length cc, .slice ak c.keep.length ck, .int .i64 c.step, .int .i64 c.slots, .int .i64 c.gens, .int .i64 c.most] := by
  obtain ⟨ac, cc, ak, ck, e, _⟩ := h
  exact ⟨ac, cc, ak, ck, e⟩
theorem lsmall_any (w : World) : Calls Try.prog 16 #[] w fun e w' => ∃ v, e = .returned v ∧ CV w' v smallC ∧ Below w.heap.size w w' := by
  have r0 := blk_alloc (blk_alloc (blk_new w (.cells #[.int .i64 64, .int .i64 9, .slice (some ⟨w.heap.size + 1, 0, none⟩) 1 1, .slice (some ⟨w.heap.size + 1 + 1, 0, none⟩) 1 1, .int .i64 8, .int .i64 4, .int .i64 3, .int .i64 512] 24)) (.cells #[.int .i64 32] 3)) (.cells #[.int .i64 2] 3)
  have l1 := (lv_new (w.alloc (.cells #[.int .i64 64, .int .i64 9, .slice (some ⟨w.heap.size + 1, 0, none⟩) 1 1, .slice (some ⟨w.heap.size + 1 + 1, 0, none⟩) 1 1, .int .i64 8, .int .i64 4, .int .i64 3, .int .i64 512] 24)) [32] (by decide)).keep ((Below.refl _ _).alloc (Nat.le_refl _) (.cells #[.int .i64 2] 3))
  have l2 := lv_new ((w.alloc (.cells #[.int .i64 64, .int .i64 9, .slice (some ⟨w.heap.size + 1, 0, none⟩) 1 1, .slice (some ⟨w.heap.size + 1 + 1, 0, none⟩) 1 1, .int .i64 8, .int .i64 4, .int .i64 3, .int .i64 512] 24)).alloc (.cells #[.int .i64 32] 3)) [2] (by decide)
  simp only [World.size_alloc] at l1 l2
  have B : Below w.heap.size w (((w.alloc (.cells #[.int .i64 64, .int .i64 9, .slice (some ⟨w.heap.size + 1, 0, none⟩) 1 1, .slice (some ⟨w.heap.size + 1 + 1, 0, none⟩) 1 1, .int .i64 8, .int .i64 4, .int .i64 3, .int .i64 512] 24)).alloc (.cells #[.int .i64 32] 3)).alloc (.cells #[.int .i64 2] 3)) := (((Below.refl w.heap.size w).alloc (Nat.le_refl _) _).alloc (by simp) _).alloc (by simp; omega) _
  have hv : CV (((w.alloc (.cells #[.int .i64 64, .int .i64 9, .slice (some ⟨w.heap.size + 1, 0, none⟩) 1 1, .slice (some ⟨w.heap.size + 1 + 1, 0, none⟩) 1 1, .int .i64 8, .int .i64 4, .int .i64 3, .int .i64 512] 24)).alloc (.cells #[.int .i64 32] 3)).alloc (.cells #[.int .i64 2] 3)) (.agg #[.int .i64 64, .int .i64 9, .slice (some ⟨w.heap.size + 1, 0, none⟩) 1 1, .slice (some ⟨w.heap.size + 1 + 1, 0, none⟩) 1 1, .int .i64 8, .int .i64 4, .int .i64 3, .int .i64 512]) smallC := ⟨_, _, _, _, rfl, l1, l2⟩
  have HV := Lib.hid hv
  have HB := Lib.hid B
  have q0 := blk_cell r0 0
  have q1 := blk_cell r0 1
  have q2 := blk_cell r0 2
  have q3 := blk_cell r0 3
  have q4 := blk_cell r0 4
  have q5 := blk_cell r0 5
  have q6 := blk_cell r0 6
  have q7 := blk_cell r0 7
  clear r0 l1 l2 B hv
  go_enter Try.func16, Try.ntmps16
  go_wp2_with fail
  refine bodyPost_ret (v := .agg #[.int .i64 64, .int .i64 9, .slice (some ⟨w.heap.size + 1, 0, none⟩) 1 1, .slice (some ⟨w.heap.size + 1 + 1, 0, none⟩) 1 1, .int .i64 8, .int .i64 4, .int .i64 3, .int .i64 512]) (by simp [results, Try.results16, go_sem, q0, q1, q2, q3, q4, q5, q6, q7]) rfl ⟨_, rfl, HV.out, HB.out⟩
set_option maxRecDepth 100000 in
set_option maxHeartbeats 4000000 in
theorem lawake (w : World) : Calls Try.prog 5 #[] w fun e w' => e = .returned (.bool true) ∧ Below w.heap.size w w' := by
  go_enter Try.func5, Try.ntmps5
  go_wp2_with fail
  refine (lsmall_any _).mono ?_
  rintro e w1 ⟨v, rfl, hc, b⟩
  obtain ⟨ac, cc, ak, ck, rfl⟩ := hc.vals
  have hb := (Below.refl w1.heap.size w1).alloc (Nat.le_refl _) (.cells #[.int .i64 64, .int .i64 9, .slice ac 1 cc, .slice ak 1 ck, .int .i64 8, .int .i64 4, .int .i64 3, .int .i64 512] 24)
  have C2 : Hid (CV (w1.alloc (.cells #[.int .i64 64, .int .i64 9, .slice ac 1 cc, .slice ak 1 ck, .int .i64 8, .int .i64 4, .int .i64 3, .int .i64 512] 24)) (.agg #[.int .i64 64, .int .i64 9, .slice ac 1 cc, .slice ak 1 ck, .int .i64 8, .int .i64 4, .int .i64 3, .int .i64 512]) smallC) := Lib.hid (hc.below hb)
  have X2 : Hid ((w1.alloc (.cells #[.int .i64 64, .int .i64 9, .slice ac 1 cc, .slice ak 1 ck, .int .i64 8, .int .i64 4, .int .i64 3, .int .i64 512] 24)).heap[w1.heap.size]? = some (.cells #[.int .i64 64, .int .i64 9, .slice ac 1 cc, .slice ak 1 ck, .int .i64 8, .int .i64 4, .int .i64 3, .int .i64 512] 24 (0, 0))) := Lib.hid (blk_new _ _)
  have B2 := Lib.hid (b.alloc b.size (.cells #[.int .i64 64, .int .i64 9, .slice ac 1 cc, .slice ak 1 ck, .int .i64 8, .int .i64 4, .int .i64 3, .int .i64 512] 24))
  clear b hb hc
  have z0 := blk_cell X2.out 0
  have z1 := blk_cell X2.out 1
  have z2 := blk_cell X2.out 2
  have z3 := blk_cell X2.out 3
  have z4 := blk_cell X2.out 4
  have z5 := blk_cell X2.out 5
  have z6 := blk_cell X2.out 6
  have z7 := blk_cell X2.out 7
  go_wp2_with fail
  refine (alloc_any _ _ smallC 20 C2.out smallC_ok).mono ?_
  rw [show allocS smallC 20 = 41 from by first | decide | decide +kernel]
  rintro e w3 ⟨rfl, b⟩
  have C3 := Lib.hid (C2.out.below b)
  have X3 := Lib.hid (below_blk b X2.out (blk_lt X2.out))
  have B3 := Lib.hid (B2.out.trans (b.mono B2.out.size))
  clear b z0 z1 z2 z3 z4 z5 z6 z7
  have z0 := blk_cell X3.out 0
  have z1 := blk_cell X3.out 1
  have z2 := blk_cell X3.out 2
  have z3 := blk_cell X3.out 3
  have z4 := blk_cell X3.out 4
  have z5 := blk_cell X3.out 5
  have z6 := blk_cell X3.out 6
  have z7 := blk_cell X3.out 7
  go_wp2_with fail
  refine (alloc_any _ _ smallC 65 C3.out smallC_ok).mono ?_
  rw [show allocS smallC 65 = 146 from by first | decide | decide +kernel]
  rintro e w4 ⟨rfl, b⟩
  have C4 := Lib.hid (C3.out.below b)
  have X4 := Lib.hid (below_blk b X3.out (blk_lt X3.out))
  have B4 := Lib.hid (B3.out.trans (b.mono B3.out.size))
  clear b z0 z1 z2 z3 z4 z5 z6 z7
  have z0 := blk_cell X4.out 0
  have z1 := blk_cell X4.out 1
  have z2 := blk_cell X4.out 2
  have z3 := blk_cell X4.out 3
  have z4 := blk_cell X4.out 4
  have z5 := blk_cell X4.out 5
  have z6 := blk_cell X4.out 6
  have z7 := blk_cell X4.out 7
  go_wp2_with fail
  refine (free_any _ _ smallC 20 C4.out smallC_ok).mono ?_
  rw [show freeS smallC 20 = 67 from by first | decide | decide +kernel]
  rintro e w5 ⟨rfl, b⟩
  have C5 := Lib.hid (C4.out.below b)
  have X5 := Lib.hid (below_blk b X4.out (blk_lt X4.out))
  have B5 := Lib.hid (B4.out.trans (b.mono B4.out.size))
  clear b z0 z1 z2 z3 z4 z5 z6 z7
  have z0 := blk_cell X5.out 0
  have z1 := blk_cell X5.out 1
  have z2 := blk_cell X5.out 2
  have z3 := blk_cell X5.out 3
  have z4 := blk_cell X5.out 4
  have z5 := blk_cell X5.out 5
  have z6 := blk_cell X5.out 6
  have z7 := blk_cell X5.out 7
  go_wp2_with fail
  refine (free_any _ _ smallC 513 C5.out smallC_ok).mono ?_
  rw [show freeS smallC 513 = 0 from by first | decide | decide +kernel]
  rintro e w6 ⟨rfl, b⟩
  have C6 := Lib.hid (C5.out.below b)
  have X6 := Lib.hid (below_blk b X5.out (blk_lt X5.out))
  have B6 := Lib.hid (B5.out.trans (b.mono B5.out.size))
  clear b z0 z1 z2 z3 z4 z5 z6 z7
  have z0 := blk_cell X6.out 0
  have z1 := blk_cell X6.out 1
  have z2 := blk_cell X6.out 2
  have z3 := blk_cell X6.out 3
  have z4 := blk_cell X6.out 4
  have z5 := blk_cell X6.out 5
  have z6 := blk_cell X6.out 6
  have z7 := blk_cell X6.out 7
  go_wp2_with fail
  refine (read_any _ _ smallC 20 5 C6.out smallC_ok (by omega)).mono ?_
  rw [show accS smallC 20 5 1 = 6 from by first | decide | decide +kernel]
  rintro e w7 ⟨rfl, b⟩
  have C7 := Lib.hid (C6.out.below b)
  have X7 := Lib.hid (below_blk b X6.out (blk_lt X6.out))
  have B7 := Lib.hid (B6.out.trans (b.mono B6.out.size))
  clear b z0 z1 z2 z3 z4 z5 z6 z7
  have z0 := blk_cell X7.out 0
  have z1 := blk_cell X7.out 1
  have z2 := blk_cell X7.out 2
  have z3 := blk_cell X7.out 3
  have z4 := blk_cell X7.out 4
  have z5 := blk_cell X7.out 5
  have z6 := blk_cell X7.out 6
  have z7 := blk_cell X7.out 7
  go_wp2_with fail
  refine (write_any _ _ smallC 100 5 C7.out smallC_ok (by omega)).mono ?_
  rw [show accS smallC 100 5 2 = 13 from by first | decide | decide +kernel]
  rintro e w8 ⟨rfl, b⟩
  have C8 := Lib.hid (C7.out.below b)
  have X8 := Lib.hid (below_blk b X7.out (blk_lt X7.out))
  have B8 := Lib.hid (B7.out.trans (b.mono B7.out.size))
  clear b z0 z1 z2 z3 z4 z5 z6 z7
  have z0 := blk_cell X8.out 0
  have z1 := blk_cell X8.out 1
  have z2 := blk_cell X8.out 2
  have z3 := blk_cell X8.out 3
  have z4 := blk_cell X8.out 4
  have z5 := blk_cell X8.out 5
  have z6 := blk_cell X8.out 6
  have z7 := blk_cell X8.out 7
  go_wp2_with fail
  refine (tick_any _ _ smallC C8.out smallC_ok).mono ?_
  rw [show tickS smallC = 18 from by first | decide | decide +kernel]
  rintro e w9 ⟨rfl, b⟩
  have C9 := Lib.hid (C8.out.below b)
  have X9 := Lib.hid (below_blk b X8.out (blk_lt X8.out))
  have B9 := Lib.hid (B8.out.trans (b.mono B8.out.size))
  clear b z0 z1 z2 z3 z4 z5 z6 z7
  have z0 := blk_cell X9.out 0
  have z1 := blk_cell X9.out 1
  have z2 := blk_cell X9.out 2
  have z3 := blk_cell X9.out 3
  have z4 := blk_cell X9.out 4
  have z5 := blk_cell X9.out 5
  have z6 := blk_cell X9.out 6
  have z7 := blk_cell X9.out 7
  go_wp2_with fail
  refine (resize_any _ _ smallC 20 0 C9.out smallC_ok (by omega)).mono ?_
  rw [show resizeS smallC 20 0 = 0 from by first | decide | decide +kernel]
  rintro e w10 ⟨rfl, b⟩
  have C10 := Lib.hid (C9.out.below b)
  have X10 := Lib.hid (below_blk b X9.out (blk_lt X9.out))
  have B10 := Lib.hid (B9.out.trans (b.mono B9.out.size))
  clear b z0 z1 z2 z3 z4 z5 z6 z7
  go_wp2_with fail
  go_ret
  exact ⟨rfl, B10.out⟩
set_option maxRecDepth 100000 in
set_option maxHeartbeats 4000000 in
theorem tells_any (w : World) (v : Value) (c : Cf) (n : Int) (h : CV w v c) : Calls Try.prog 3 #[v, .int .i64 n] w fun e w' => e = .returned (.bool true) ∧ Below w.heap.size w w' := by
  have H := Lib.hid h
  obtain ⟨ac, cc, ak, ck, rfl, h1, h2⟩ := h
  have B0 := Lib.hid ((Below.refl w.heap.size w).alloc (Nat.le_refl _) (.cells #[.int .i64 c.size, .int .i64 c.pages, .slice ac c.classes.length cc, .slice ak c.keep.length ck, .int .i64 c.step, .int .i64 c.slots, .int .i64 c.gens, .int .i64 c.most] 24))
  have X0 := Lib.hid (blk_new w (.cells #[.int .i64 c.size, .int .i64 c.pages, .slice ac c.classes.length cc, .slice ak c.keep.length ck, .int .i64 c.step, .int .i64 c.slots, .int .i64 c.gens, .int .i64 c.most] 24))
  clear h1 h2
  go_enter Try.func3, Try.ntmps3
  go_wp2_with fail
  refine (lawake _).mono ?_
  rintro e w1 ⟨rfl, b1⟩
  have B1 := Lib.hid (B0.out.trans (b1.mono B0.out.size))
  have X1 := Lib.hid (below_blk b1 X0.out (by simp))
  have x0 := blk_cell X1.out 0
  have x1 := blk_cell X1.out 1
  have x2 := blk_cell X1.out 2
  have x3 := blk_cell X1.out 3
  have x4 := blk_cell X1.out 4
  have x5 := blk_cell X1.out 5
  have x6 := blk_cell X1.out 6
  have x7 := blk_cell X1.out 7
  have hz1 := b1.size
  simp only [World.size_alloc] at hz1
  clear b1
  go_wp2_with fail
  refine (rmay03_any _ _ c (H.out.below B1.out)).mono ?_
  rintro e w2 ⟨r, rfl, hr, b2⟩
  have B2 := Lib.hid (B1.out.trans (b2.mono B1.out.size))
  have X2 := Lib.hid (below_blk b2 X1.out (by omega))
  clear b2 x0 x1 x2 x3 x4 x5 x6 x7
  by_cases hr0 : r = 0
  · have ok := hr hr0
    subst hr0
    clear hr
    have y0 := cell_regrown (blk_cell X2.out 0)
    have y1 := cell_regrown (blk_cell X2.out 1)
    have y2 := cell_regrown (blk_cell X2.out 2)
    have y3 := cell_regrown (blk_cell X2.out 3)
    have y4 := cell_regrown (blk_cell X2.out 4)
    have y5 := cell_regrown (blk_cell X2.out 5)
    have y6 := cell_regrown (blk_cell X2.out 6)
    have y7 := cell_regrown (blk_cell X2.out 7)
    have cQA : ∀ (d : Nat) (os : Array Obj), Calls Try.prog 7 #[.agg #[.int .i64 c.size, .int .i64 c.pages, .slice ac c.classes.length cc, .slice ak c.keep.length ck, .int .i64 c.step, .int .i64 c.slots, .int .i64 c.gens, .int .i64 c.most], .int .i64 n] (grow (redrawn w2 d) os) fun e w'' => e = .returned (.int .i64 (allocS c n)) ∧ ∃ p : Regrown, w'' = grow (redrawn w2 p.d) p.os := fun d os =>
      Calls.regrown_of (alloc_any _ _ c n (H.out.below (B2.out.trans ((below_regrown _ d os).mono B2.out.size))) ok)
    have QA := Lib.hid cQA
    clear cQA
    have cRA : ∀ (d : Nat) (os : Array Obj), Calls Try.prog 8 #[.agg #[.int .i64 c.size, .int .i64 c.pages, .slice ac c.classes.length cc, .slice ak c.keep.length ck, .int .i64 c.step, .int .i64 c.slots, .int .i64 c.gens, .int .i64 c.most], .int .i64 n] (grow (redrawn w2 d) os) fun e w'' => e = .returned (.int .i64 (allocS c n)) ∧ ∃ p : Regrown, w'' = grow (redrawn w2 p.d) p.os := fun d os =>
      Calls.regrown_of (ralloc_any _ _ c n (H.out.below (B2.out.trans ((below_regrown _ d os).mono B2.out.size))) ok)
    have RA := Lib.hid cRA
    clear cRA
    have cQF : ∀ (d : Nat) (os : Array Obj), Calls Try.prog 9 #[.agg #[.int .i64 c.size, .int .i64 c.pages, .slice ac c.classes.length cc, .slice ak c.keep.length ck, .int .i64 c.step, .int .i64 c.slots, .int .i64 c.gens, .int .i64 c.most], .int .i64 n] (grow (redrawn w2 d) os) fun e w'' => e = .returned (.int .i64 (freeS c n)) ∧ ∃ p : Regrown, w'' = grow (redrawn w2 p.d) p.os := fun d os =>
      Calls.regrown_of (free_any _ _ c n (H.out.below (B2.out.trans ((below_regrown _ d os).mono B2.out.size))) ok)
    have QF := Lib.hid cQF
    clear cQF
    have cRF : ∀ (d : Nat) (os : Array Obj), Calls Try.prog 10 #[.agg #[.int .i64 c.size, .int .i64 c.pages, .slice ac c.classes.length cc, .slice ak c.keep.length ck, .int .i64 c.step, .int .i64 c.slots, .int .i64 c.gens, .int .i64 c.most], .int .i64 n] (grow (redrawn w2 d) os) fun e w'' => e = .returned (.int .i64 (freeS c n)) ∧ ∃ p : Regrown, w'' = grow (redrawn w2 p.d) p.os := fun d os =>
      Calls.regrown_of (rfree_any _ _ c n (H.out.below (B2.out.trans ((below_regrown _ d os).mono B2.out.size))) ok)
    have RF := Lib.hid cRF
    clear cRF
    have cQT : ∀ (d : Nat) (os : Array Obj), Calls Try.prog 11 #[.agg #[.int .i64 c.size, .int .i64 c.pages, .slice ac c.classes.length cc, .slice ak c.keep.length ck, .int .i64 c.step, .int .i64 c.slots, .int .i64 c.gens, .int .i64 c.most]] (grow (redrawn w2 d) os) fun e w'' => e = .returned (.int .i64 (tickS c)) ∧ ∃ p : Regrown, w'' = grow (redrawn w2 p.d) p.os := fun d os =>
      Calls.regrown_of (tick_any _ _ c (H.out.below (B2.out.trans ((below_regrown _ d os).mono B2.out.size))) ok)
    have QT := Lib.hid cQT
    clear cQT
    have cRT : ∀ (d : Nat) (os : Array Obj), Calls Try.prog 12 #[.agg #[.int .i64 c.size, .int .i64 c.pages, .slice ac c.classes.length cc, .slice ak c.keep.length ck, .int .i64 c.step, .int .i64 c.slots, .int .i64 c.gens, .int .i64 c.most]] (grow (redrawn w2 d) os) fun e w'' => e = .returned (.int .i64 (tickS c)) ∧ ∃ p : Regrown, w'' = grow (redrawn w2 p.d) p.os := fun d os =>
      Calls.regrown_of (rtick_any _ _ c (H.out.below (B2.out.trans ((below_regrown _ d os).mono B2.out.size))) ok)
    have RT := Lib.hid cRT
    clear cRT
    generalize allocS c n = al at QA RA
    generalize freeS c n = fe at QF RF
    generalize tickS c = ti at QT RT
    clear ok
    go_wp2_with fail
    refine wp_region_quiet_below (by kernel_rfl) (by kernel_rfl) ?_
    repeat (first | go_big_quiet_step (first | exact QA.out _ _ | exact RA.out _ _ | exact QF.out _ _ | exact RF.out _ _ | exact QT.out _ _ | exact RT.out _ _) | quiet_step (first | exact QA.out _ _ | exact RA.out _ _ | exact QF.out _ _ | exact RF.out _ _ | exact QT.out _ _ | exact RT.out _ _))
    refine wpQuiet_nil ?_
    intro _ hw'
    obtain ⟨⟨dq, osq⟩, hw''⟩ := hw'
    subst hw''
    have B5 := B2.out.trans ((below_regrown _ dq osq).mono B2.out.size)
    go_wp2_with fail
    go_ret
    exact ⟨rfl, B5⟩
  · go_wp2_with fail
    go_ret
    exact ⟨rfl, B2.out⟩
end Go.Proofs.Ytigojdhhgdfnkaa
