/- The contracts of the reference's bounds (almeryref18). -/
import Derived.Test.YtigojdhhgdfnkaaBound4
import Derived.Test.YtigojdhhgdfnkaaRMany
namespace Go.Proofs.Ytigojdhhgdfnkaa
open Go.RowKit Go.Sort
set_option linter.unusedVariables false

theorem rdata_any (w : World) (n b : Int) (hn2 : n ≤ 9223372036854775807) : Calls Try.prog 30 #[.int .i64 n, .int .i64 b] w fun e w' => e = .returned (.int .i64 (manyS n b)) ∧ w = w' := by
  go_enter Try.func30, Try.ntmps30
  go_wp2_with fail
  refine (rmany_any w n b hn2).mono ?_
  rintro e w1 ⟨rfl, rfl⟩
  go_wp2_with fail
  go_ret
  exact ⟨rfl, rfl⟩
theorem rall_any (w : World) (n b : Int) (hn2 : n ≤ 9223372036854775807) : Calls Try.prog 29 #[.int .i64 n, .int .i64 b] w fun e w' => e = .returned (.int .i64 (allS n b)) ∧ w = w' := by
  have hr := manyS_range n b hn2
  have HD := Lib.hid (fun w => rdata_any w n b hn2)
  unfold allS
  generalize manyS n b = m at hr HD ⊢
  by_cases h1 : m = 0
  · subst h1
    rw [if_pos (.inl rfl)]
    go_enter Try.func29, Try.ntmps29
    go_wp2_with fail
    refine (HD.out w).mono ?_
    rintro e w1 ⟨rfl, rfl⟩
    go_wp2_with fail
    go_ret
    exact ⟨rfl, rfl⟩
  · by_cases h2 : m = 9223372036854775807
    · subst h2
      rw [if_pos (.inr rfl)]
      go_enter Try.func29, Try.ntmps29
      go_wp2_with fail
      refine (HD.out w).mono ?_
      rintro e w1 ⟨rfl, rfl⟩
      go_wp2_with fail
      refine (HD.out w).mono ?_
      rintro e w1 ⟨rfl, rfl⟩
      go_wp2_with fail
      go_ret
      exact ⟨rfl, rfl⟩
    · rw [if_neg (by omega)]
      have e1 : (m == 0) = false := beq_eq_false_iff_ne.2 h1
      have e2 : (m == 9223372036854775807) = false := beq_eq_false_iff_ne.2 h2
      go_enter Try.func29, Try.ntmps29
      go_wp2_with fail
      refine (HD.out w).mono ?_
      rintro e w1 ⟨rfl, rfl⟩
      go_wp2_with fail
      refine (HD.out w).mono ?_
      rintro e w1 ⟨rfl, rfl⟩
      go_wp2_with fail
      refine (HD.out w).mono ?_
      rintro e w1 ⟨rfl, rfl⟩
      go_wp2_with fail
      go_ret
      exact ⟨rfl, rfl⟩
theorem ris_any (w : World) (v : Value) (c : Cf) (n : Int) (h : CV w v c) : Calls Try.prog 26 #[v, .int .i64 n] w fun e w' => e = .returned (.bool (decide (1 ≤ n ∧ n ≤ c.most))) ∧ Below w.heap.size w w' := by
  have H := Lib.hid h
  obtain ⟨ac, cc, ak, ck, rfl, h1, h2⟩ := h
  have B0 := Lib.hid ((Below.refl w.heap.size w).alloc (Nat.le_refl _) (.cells #[.int .i64 c.size, .int .i64 c.pages, .slice ac c.classes.length cc, .slice ak c.keep.length ck, .int .i64 c.step, .int .i64 c.slots, .int .i64 c.gens, .int .i64 c.most] 24))
  have X0 := Lib.hid (blk_new w (.cells #[.int .i64 c.size, .int .i64 c.pages, .slice ac c.classes.length cc, .slice ak c.keep.length ck, .int .i64 c.step, .int .i64 c.slots, .int .i64 c.gens, .int .i64 c.most] 24))
  clear h1 h2
  by_cases g1 : 1 ≤ n
  · by_cases g2 : n ≤ c.most
    · rw [decide_eq_true (show 1 ≤ n ∧ n ≤ c.most from ⟨g1, g2⟩)]
      go_enter Try.func26, Try.ntmps26
      go_wp2_with fail
      go_ret
      exact ⟨rfl, B0.out⟩
    · rw [decide_eq_false (show ¬ (1 ≤ n ∧ n ≤ c.most) from fun h => g2 h.2)]
      go_enter Try.func26, Try.ntmps26
      go_wp2_with fail
      go_ret
      exact ⟨rfl, B0.out⟩
  · rw [decide_eq_false (show ¬ (1 ≤ n ∧ n ≤ c.most) from fun h => g1 h.1)]
    go_enter Try.func26, Try.ntmps26
    go_wp2_with fail
    go_ret
    exact ⟨rfl, B0.out⟩
theorem rsmall18_any (w : World) (v : Value) (c : Cf) (n : Int) (h : CV w v c) : Calls Try.prog 27 #[v, .int .i64 n] w fun e w' => e = .returned (.bool (decide (n ≤ lastC c.classes))) ∧ Below w.heap.size w w' := by
  have H := Lib.hid h
  obtain ⟨ac, cc, ak, ck, rfl, h1, h2⟩ := h
  have B0 := Lib.hid ((Below.refl w.heap.size w).alloc (Nat.le_refl _) (.cells #[.int .i64 c.size, .int .i64 c.pages, .slice ac c.classes.length cc, .slice ak c.keep.length ck, .int .i64 c.step, .int .i64 c.slots, .int .i64 c.gens, .int .i64 c.most] 24))
  have X0 := Lib.hid (blk_new w (.cells #[.int .i64 c.size, .int .i64 c.pages, .slice ac c.classes.length cc, .slice ak c.keep.length ck, .int .i64 c.step, .int .i64 c.slots, .int .i64 c.gens, .int .i64 c.most] 24))
  clear h1 h2
  go_enter Try.func27, Try.ntmps27
  go_wp2_with fail
  refine (rsmall_any _ _ c (H.out.below B0.out)).mono ?_
  rintro e w1 ⟨rfl, b1⟩
  have B1 := Lib.hid (B0.out.trans (b1.mono B0.out.size))
  clear b1
  go_wp2_with fail
  go_ret
  exact ⟨rfl, B1.out⟩
theorem rblock_any (w : World) (v : Value) (c : Cf) (n : Int) (h : CV w v c) (g1 : 1 ≤ n) (g2 : n ≤ lastC c.classes) (g3 : 0 < c.classes.length) : Calls Try.prog 28 #[v, .int .i64 n] w fun e w' => e = .returned (.int .i64 (blk c n)) ∧ Below w.heap.size w w' := by
  obtain ⟨i, hi, hil⟩ := pickP_some g1 g2 g3
  rw [show blk c n = c.classes.getD i 0 from by unfold blk; rw [hi]; rfl]
  clear g1 g2 g3
  have H := Lib.hid h
  obtain ⟨ac, cc, ak, ck, rfl, h1, h2⟩ := h
  have B0 := Lib.hid ((Below.refl w.heap.size w).alloc (Nat.le_refl _) (.cells #[.int .i64 c.size, .int .i64 c.pages, .slice ac c.classes.length cc, .slice ak c.keep.length ck, .int .i64 c.step, .int .i64 c.slots, .int .i64 c.gens, .int .i64 c.most] 24))
  have X0 := Lib.hid (blk_new w (.cells #[.int .i64 c.size, .int .i64 c.pages, .slice ac c.classes.length cc, .slice ak c.keep.length ck, .int .i64 c.step, .int .i64 c.slots, .int .i64 c.gens, .int .i64 c.most] 24))
  have H1 := Lib.hid h1
  have hcap := h1.caps
  obtain ⟨gl, off, c', hv, hx⟩ := h1.elem hil
  cases hv
  have z0 := cell_regrown (hx _ B0.out)
  have q0 := cell_regrown (blk_cell X0.out 0)
  have q1 := cell_regrown (blk_cell X0.out 1)
  have q2 := cell_regrown (blk_cell X0.out 2)
  have q3 := cell_regrown (blk_cell X0.out 3)
  have q4 := cell_regrown (blk_cell X0.out 4)
  have q5 := cell_regrown (blk_cell X0.out 5)
  have q6 := cell_regrown (blk_cell X0.out 6)
  have q7 := cell_regrown (blk_cell X0.out 7)
  have cHQ : ∀ (d : Nat) (os : Array Obj), Calls Try.prog 40 #[.slice (some ⟨gl, off, none⟩) c.classes.length cc, .int .i64 n] (grow (redrawn (w.alloc (.cells #[.int .i64 c.size, .int .i64 c.pages, .slice (some ⟨gl, off, none⟩) c.classes.length cc, .slice ak c.keep.length ck, .int .i64 c.step, .int .i64 c.slots, .int .i64 c.gens, .int .i64 c.most] 24)) d) os) fun e w'' => e = .returned (.int .i64 ((i : Int))) ∧ ∃ p : Regrown, w'' = grow (redrawn (w.alloc (.cells #[.int .i64 c.size, .int .i64 c.pages, .slice (some ⟨gl, off, none⟩) c.classes.length cc, .slice ak c.keep.length ck, .int .i64 c.step, .int .i64 c.slots, .int .i64 c.gens, .int .i64 c.most] 24)) p.d) p.os := fun d os =>
    Calls.regrown_of (by rw [← hi]; exact (rpick_any 0 _ _ c.classes n (H1.out.keep (B0.out.trans ((below_regrown _ d os).mono B0.out.size)))).mono fun e w' h => ⟨h.1, by rw [← h.2]; exact Below.refl _ _⟩)
  have HQ := Lib.hid cHQ
  clear cHQ
  clear h1 h2 hx hi
  generalize c.classes.getD i 0 = x at z0 ⊢
  go_enter Try.func28, Try.ntmps28
  go_wp2_with fail
  refine wp_region_quiet_below (by kernel_rfl) (by kernel_rfl) ?_
  repeat (first | go_big_quiet_step (first | exact HQ.out _ _) | quiet_step (first | exact HQ.out _ _))
  refine wpQuiet_nil ?_
  intro _ hw'
  obtain ⟨⟨dq, osq⟩, hw''⟩ := hw'
  subst hw''
  have B5 := B0.out.trans ((below_regrown _ dq osq).mono B0.out.size)
  go_wp2_with fail
  go_ret
  exact ⟨rfl, B5⟩
set_option maxHeartbeats 2000000 in
theorem ralloc_any (w : World) (v : Value) (c : Cf) (n : Int) (h : CV w v c) (ok : OkMay c) : Calls Try.prog 8 #[v, .int .i64 n] w fun e w' => e = .returned (.int .i64 (allocS c n)) ∧ Below w.heap.size w w' := by
  have H := Lib.hid h
  obtain ⟨ac, cc, ak, ck, rfl, h1, h2⟩ := h
  have B0 := Lib.hid ((Below.refl w.heap.size w).alloc (Nat.le_refl _) (.cells #[.int .i64 c.size, .int .i64 c.pages, .slice ac c.classes.length cc, .slice ak c.keep.length ck, .int .i64 c.step, .int .i64 c.slots, .int .i64 c.gens, .int .i64 c.most] 24))
  have X0 := Lib.hid (blk_new w (.cells #[.int .i64 c.size, .int .i64 c.pages, .slice ac c.classes.length cc, .slice ak c.keep.length ck, .int .i64 c.step, .int .i64 c.slots, .int .i64 c.gens, .int .i64 c.most] 24))
  clear h1 h2
  by_cases g1 : 1 ≤ n ∧ n ≤ c.most
  · have dt := decide_eq_true g1
    have hm := ok.most
    by_cases g2 : n ≤ lastC c.classes
    · have ds := decide_eq_true g2
      have hb := blk_bounds ok g1.1 g2
      have HK := Lib.hid (fun W (k : Below w.heap.size w W) => rblock_any W _ c n (H.out.below k) g1.1 g2 ok.pos.1)
      rw [show allocS c n = 9 + blk c n from by unfold allocS eitherS; rw [if_pos g1, if_pos g2]]
      generalize blk c n = b at hb HK ⊢
      clear g1 g2 ok hm
      go_enter Try.func8, Try.ntmps8
      go_wp2_with fail
      refine (ris_any _ _ c n (H.out.below B0.out)).mono ?_
      rw [dt]
      rintro e w1 ⟨rfl, b1⟩
      have B1 := Lib.hid (B0.out.trans (b1.mono B0.out.size))
      have X1 := Lib.hid (below_blk b1 X0.out (by simp))
      have x0 := blk_cell X1.out 0
      have x1 := blk_cell X1.out 1
      have x2 := blk_cell X1.out 2
      have x3 := blk_cell X1.out 3
      have x4 := blk_cell X1.out 4
      have x5 := blk_cell X1.out 5
      have x6 := blk_cell X1.out 6
      have x7 := blk_cell X1.out 7
      have hz1 := b1.size
      simp only [World.size_alloc] at hz1
      clear b1
      go_wp2_with fail
      refine (rsmall18_any _ _ c n (H.out.below B1.out)).mono ?_
      rw [ds]
      rintro e w2 ⟨rfl, b2⟩
      have B2 := Lib.hid (B1.out.trans (b2.mono B1.out.size))
      have X2 := Lib.hid (below_blk b2 X1.out (by omega))
      clear b2 x0 x1 x2 x3 x4 x5 x6 x7
      have y0 := blk_cell X2.out 0
      have y1 := blk_cell X2.out 1
      have y2 := blk_cell X2.out 2
      have y3 := blk_cell X2.out 3
      have y4 := blk_cell X2.out 4
      have y5 := blk_cell X2.out 5
      have y6 := blk_cell X2.out 6
      have y7 := blk_cell X2.out 7
      go_wp2_with fail
      refine (HK.out _ B2.out).mono ?_
      rintro e w3 ⟨rfl, b3⟩
      have B3 := Lib.hid (B2.out.trans (b3.mono B2.out.size))
      clear b3
      go_wp2_with fail
      go_ret
      exact ⟨rfl, B3.out⟩
    · have ds := decide_eq_false g2
      have hb := large_bounds ok g1.1 g1.2
      have s1 := ok.size1
      have s2 := ok.size2
      have hr := mul_range (a := 2 + c.size) (b := manyS n c.size) (x := 4098) (y := 512) ⟨by omega, by omega⟩ ⟨by omega, by omega⟩
      have HR := Lib.hid (show allocS c n = 2 + 4 * allS n c.size + (2 + c.size) * manyS n c.size from by unfold allocS eitherS; rw [if_pos g1, if_neg g2])
      have HA := Lib.hid (fun W => calls_below (rall_any W n c.size (by omega)))
      have HD := Lib.hid (fun W => calls_below (rdata_any W n c.size (by omega)))
      generalize allS n c.size = al at hb HR HA ⊢
      generalize manyS n c.size = md at hb hr HR HD ⊢
      have hal : 1 ≤ al ∧ al ≤ 513 := by omega
      have hb2 : 1 ≤ md ∧ md ≤ 512 := by omega
      clear hb
      have e1 : IntKind.i64.wrap ((2 + c.size) * md) = (2 + c.size) * md := IntWalk.i64_in _ (by omega)
      clear g1 g2 ok
      go_enter Try.func8, Try.ntmps8
      go_wp2_with fail
      refine (ris_any _ _ c n (H.out.below B0.out)).mono ?_
      rw [dt]
      rintro e w1 ⟨rfl, b1⟩
      have B1 := Lib.hid (B0.out.trans (b1.mono B0.out.size))
      have X1 := Lib.hid (below_blk b1 X0.out (by simp))
      have x0 := blk_cell X1.out 0
      have x1 := blk_cell X1.out 1
      have x2 := blk_cell X1.out 2
      have x3 := blk_cell X1.out 3
      have x4 := blk_cell X1.out 4
      have x5 := blk_cell X1.out 5
      have x6 := blk_cell X1.out 6
      have x7 := blk_cell X1.out 7
      have hz1 := b1.size
      simp only [World.size_alloc] at hz1
      clear b1
      go_wp2_with fail
      refine (rsmall18_any _ _ c n (H.out.below B1.out)).mono ?_
      rw [ds]
      rintro e w2 ⟨rfl, b2⟩
      have B2 := Lib.hid (B1.out.trans (b2.mono B1.out.size))
      have X2 := Lib.hid (below_blk b2 X1.out (by omega))
      clear b2 x0 x1 x2 x3 x4 x5 x6 x7
      have y0 := cell_regrown (blk_cell X2.out 0)
      have y1 := cell_regrown (blk_cell X2.out 1)
      have y2 := cell_regrown (blk_cell X2.out 2)
      have y3 := cell_regrown (blk_cell X2.out 3)
      have y4 := cell_regrown (blk_cell X2.out 4)
      have y5 := cell_regrown (blk_cell X2.out 5)
      have y6 := cell_regrown (blk_cell X2.out 6)
      have y7 := cell_regrown (blk_cell X2.out 7)
      have cHQ : ∀ (d : Nat) (os : Array Obj), Calls Try.prog 29 #[.int .i64 n, .int .i64 c.size] (grow (redrawn w2 d) os) fun e w'' => e = .returned (.int .i64 (al)) ∧ ∃ p : Regrown, w'' = grow (redrawn w2 p.d) p.os := fun d os =>
        Calls.regrown_of (HA.out _)
      have HQ := Lib.hid cHQ
      clear cHQ
      have cHP : ∀ (d : Nat) (os : Array Obj), Calls Try.prog 30 #[.int .i64 n, .int .i64 c.size] (grow (redrawn w2 d) os) fun e w'' => e = .returned (.int .i64 (md)) ∧ ∃ p : Regrown, w'' = grow (redrawn w2 p.d) p.os := fun d os =>
        Calls.regrown_of (HD.out _)
      have HP := Lib.hid cHP
      clear cHP
      go_wp2_with fail
      refine wp_region_quiet_below (by kernel_rfl) (by kernel_rfl) ?_
      repeat (first | go_big_quiet_step (first | exact HQ.out _ _ | exact HP.out _ _) | quiet_step (first | exact HQ.out _ _ | exact HP.out _ _))
      refine wpQuiet_nil ?_
      intro _ hw'
      obtain ⟨⟨dq, osq⟩, hw''⟩ := hw'
      subst hw''
      have B5 := B2.out.trans ((below_regrown _ dq osq).mono B2.out.size)
      go_wp2_with fail
      go_ret
      exact ⟨by rw [HR.out]; rfl, B5⟩
  · have dt := decide_eq_false g1
    rw [show allocS c n = 0 from if_neg g1]
    go_enter Try.func8, Try.ntmps8
    go_wp2_with fail
    refine (ris_any _ _ c n (H.out.below B0.out)).mono ?_
    rw [dt]
    rintro e w1 ⟨rfl, b1⟩
    have B1 := Lib.hid (B0.out.trans (b1.mono B0.out.size))
    have X1 := Lib.hid (below_blk b1 X0.out (by simp))
    have x0 := blk_cell X1.out 0
    have x1 := blk_cell X1.out 1
    have x2 := blk_cell X1.out 2
    have x3 := blk_cell X1.out 3
    have x4 := blk_cell X1.out 4
    have x5 := blk_cell X1.out 5
    have x6 := blk_cell X1.out 6
    have x7 := blk_cell X1.out 7
    have hz1 := b1.size
    simp only [World.size_alloc] at hz1
    clear b1
    go_wp2_with fail
    go_ret
    exact ⟨rfl, B1.out⟩
set_option maxHeartbeats 2000000 in
theorem rfree_any (w : World) (v : Value) (c : Cf) (n : Int) (h : CV w v c) (ok : OkMay c) : Calls Try.prog 10 #[v, .int .i64 n] w fun e w' => e = .returned (.int .i64 (freeS c n)) ∧ Below w.heap.size w w' := by
  have H := Lib.hid h
  obtain ⟨ac, cc, ak, ck, rfl, h1, h2⟩ := h
  have B0 := Lib.hid ((Below.refl w.heap.size w).alloc (Nat.le_refl _) (.cells #[.int .i64 c.size, .int .i64 c.pages, .slice ac c.classes.length cc, .slice ak c.keep.length ck, .int .i64 c.step, .int .i64 c.slots, .int .i64 c.gens, .int .i64 c.most] 24))
  have X0 := Lib.hid (blk_new w (.cells #[.int .i64 c.size, .int .i64 c.pages, .slice ac c.classes.length cc, .slice ak c.keep.length ck, .int .i64 c.step, .int .i64 c.slots, .int .i64 c.gens, .int .i64 c.most] 24))
  clear h1 h2
  by_cases g1 : 1 ≤ n ∧ n ≤ c.most
  · have dt := decide_eq_true g1
    have hm := ok.most
    by_cases g2 : n ≤ lastC c.classes
    · have ds := decide_eq_true g2
      have hb := blk_bounds ok g1.1 g2
      have hst := ok.step
      have HK := Lib.hid (fun W (k : Below w.heap.size w W) => rblock_any W _ c n (H.out.below k) g1.1 g2 ok.pos.1)
      have HR := Lib.hid (show freeS c n = 27 + blk c n + min (blk c n) c.step from by unfold freeS eitherS; rw [if_pos g1, if_pos g2])
      generalize blk c n = b at hb HK HR ⊢
      clear g1 g2 ok hm
      by_cases hc : c.step < b
      · have hm2 : Hid (min b c.step = c.step) := Lib.hid (by omega)
        go_enter Try.func10, Try.ntmps10
        go_wp2_with fail
        refine (ris_any _ _ c n (H.out.below B0.out)).mono ?_
        rw [dt]
        rintro e w1 ⟨rfl, b1⟩
        have B1 := Lib.hid (B0.out.trans (b1.mono B0.out.size))
        have X1 := Lib.hid (below_blk b1 X0.out (by simp))
        have x0 := blk_cell X1.out 0
        have x1 := blk_cell X1.out 1
        have x2 := blk_cell X1.out 2
        have x3 := blk_cell X1.out 3
        have x4 := blk_cell X1.out 4
        have x5 := blk_cell X1.out 5
        have x6 := blk_cell X1.out 6
        have x7 := blk_cell X1.out 7
        have hz1 := b1.size
        simp only [World.size_alloc] at hz1
        clear b1
        go_wp2_with fail
        refine (rsmall18_any _ _ c n (H.out.below B1.out)).mono ?_
        rw [ds]
        rintro e w2 ⟨rfl, b2⟩
        have B2 := Lib.hid (B1.out.trans (b2.mono B1.out.size))
        have X2 := Lib.hid (below_blk b2 X1.out (by omega))
        clear b2 x0 x1 x2 x3 x4 x5 x6 x7
        have y0 := cell_regrown (blk_cell X2.out 0)
        have y1 := cell_regrown (blk_cell X2.out 1)
        have y2 := cell_regrown (blk_cell X2.out 2)
        have y3 := cell_regrown (blk_cell X2.out 3)
        have y4 := cell_regrown (blk_cell X2.out 4)
        have y5 := cell_regrown (blk_cell X2.out 5)
        have y6 := cell_regrown (blk_cell X2.out 6)
        have y7 := cell_regrown (blk_cell X2.out 7)
        have cHQ : ∀ (d : Nat) (os : Array Obj), Calls Try.prog 28 #[.agg #[.int .i64 c.size, .int .i64 c.pages, .slice ac c.classes.length cc, .slice ak c.keep.length ck, .int .i64 c.step, .int .i64 c.slots, .int .i64 c.gens, .int .i64 c.most], .int .i64 n] (grow (redrawn w2 d) os) fun e w'' => e = .returned (.int .i64 (b)) ∧ ∃ p : Regrown, w'' = grow (redrawn w2 p.d) p.os := fun d os =>
          Calls.regrown_of (HK.out _ (B2.out.trans ((below_regrown _ d os).mono B2.out.size)))
        have HQ := Lib.hid cHQ
        clear cHQ
        go_wp2_with fail
        refine wp_region_quiet_below (by kernel_rfl) (by kernel_rfl) ?_
        repeat (first | go_big_quiet_step (first | exact HQ.out _ _) | quiet_step (first | exact HQ.out _ _))
        refine wpQuiet_nil ?_
        intro _ hw'
        obtain ⟨⟨dq, osq⟩, hw''⟩ := hw'
        subst hw''
        have B5 := B2.out.trans ((below_regrown _ dq osq).mono B2.out.size)
        go_wp2_with fail
        go_ret
        exact ⟨by rw [HR.out, hm2.out]; rfl, B5⟩
      · have hm2 : Hid (min b c.step = b) := Lib.hid (by omega)
        go_enter Try.func10, Try.ntmps10
        go_wp2_with fail
        refine (ris_any _ _ c n (H.out.below B0.out)).mono ?_
        rw [dt]
        rintro e w1 ⟨rfl, b1⟩
        have B1 := Lib.hid (B0.out.trans (b1.mono B0.out.size))
        have X1 := Lib.hid (below_blk b1 X0.out (by simp))
        have x0 := blk_cell X1.out 0
        have x1 := blk_cell X1.out 1
        have x2 := blk_cell X1.out 2
        have x3 := blk_cell X1.out 3
        have x4 := blk_cell X1.out 4
        have x5 := blk_cell X1.out 5
        have x6 := blk_cell X1.out 6
        have x7 := blk_cell X1.out 7
        have hz1 := b1.size
        simp only [World.size_alloc] at hz1
        clear b1
        go_wp2_with fail
        refine (rsmall18_any _ _ c n (H.out.below B1.out)).mono ?_
        rw [ds]
        rintro e w2 ⟨rfl, b2⟩
        have B2 := Lib.hid (B1.out.trans (b2.mono B1.out.size))
        have X2 := Lib.hid (below_blk b2 X1.out (by omega))
        clear b2 x0 x1 x2 x3 x4 x5 x6 x7
        have y0 := cell_regrown (blk_cell X2.out 0)
        have y1 := cell_regrown (blk_cell X2.out 1)
        have y2 := cell_regrown (blk_cell X2.out 2)
        have y3 := cell_regrown (blk_cell X2.out 3)
        have y4 := cell_regrown (blk_cell X2.out 4)
        have y5 := cell_regrown (blk_cell X2.out 5)
        have y6 := cell_regrown (blk_cell X2.out 6)
        have y7 := cell_regrown (blk_cell X2.out 7)
        have cHQ : ∀ (d : Nat) (os : Array Obj), Calls Try.prog 28 #[.agg #[.int .i64 c.size, .int .i64 c.pages, .slice ac c.classes.length cc, .slice ak c.keep.length ck, .int .i64 c.step, .int .i64 c.slots, .int .i64 c.gens, .int .i64 c.most], .int .i64 n] (grow (redrawn w2 d) os) fun e w'' => e = .returned (.int .i64 (b)) ∧ ∃ p : Regrown, w'' = grow (redrawn w2 p.d) p.os := fun d os =>
          Calls.regrown_of (HK.out _ (B2.out.trans ((below_regrown _ d os).mono B2.out.size)))
        have HQ := Lib.hid cHQ
        clear cHQ
        go_wp2_with fail
        refine wp_region_quiet_below (by kernel_rfl) (by kernel_rfl) ?_
        repeat (first | go_big_quiet_step (first | exact HQ.out _ _) | quiet_step (first | exact HQ.out _ _))
        refine wpQuiet_nil ?_
        intro _ hw'
        obtain ⟨⟨dq, osq⟩, hw''⟩ := hw'
        subst hw''
        have B5 := B2.out.trans ((below_regrown _ dq osq).mono B2.out.size)
        go_wp2_with fail
        go_ret
        exact ⟨by rw [HR.out, hm2.out]; rfl, B5⟩
    · have ds := decide_eq_false g2
      have hb := large_bounds ok g1.1 g1.2
      have HR := Lib.hid (show freeS c n = 3 + 4 * allS n c.size + manyS n c.size from by unfold freeS eitherS; rw [if_pos g1, if_neg g2])
      have HA := Lib.hid (fun W => calls_below (rall_any W n c.size (by omega)))
      have HD := Lib.hid (fun W => calls_below (rdata_any W n c.size (by omega)))
      generalize allS n c.size = al at hb HR HA ⊢
      generalize manyS n c.size = md at hb HR HD ⊢
      have hal : 1 ≤ al ∧ al ≤ 513 := by omega
      have hb2 : 1 ≤ md ∧ md ≤ 512 := by omega
      clear hb
      clear g1 g2 ok
      go_enter Try.func10, Try.ntmps10
      go_wp2_with fail
      refine (ris_any _ _ c n (H.out.below B0.out)).mono ?_
      rw [dt]
      rintro e w1 ⟨rfl, b1⟩
      have B1 := Lib.hid (B0.out.trans (b1.mono B0.out.size))
      have X1 := Lib.hid (below_blk b1 X0.out (by simp))
      have x0 := blk_cell X1.out 0
      have x1 := blk_cell X1.out 1
      have x2 := blk_cell X1.out 2
      have x3 := blk_cell X1.out 3
      have x4 := blk_cell X1.out 4
      have x5 := blk_cell X1.out 5
      have x6 := blk_cell X1.out 6
      have x7 := blk_cell X1.out 7
      have hz1 := b1.size
      simp only [World.size_alloc] at hz1
      clear b1
      go_wp2_with fail
      refine (rsmall18_any _ _ c n (H.out.below B1.out)).mono ?_
      rw [ds]
      rintro e w2 ⟨rfl, b2⟩
      have B2 := Lib.hid (B1.out.trans (b2.mono B1.out.size))
      have X2 := Lib.hid (below_blk b2 X1.out (by omega))
      clear b2 x0 x1 x2 x3 x4 x5 x6 x7
      have y0 := cell_regrown (blk_cell X2.out 0)
      have y1 := cell_regrown (blk_cell X2.out 1)
      have y2 := cell_regrown (blk_cell X2.out 2)
      have y3 := cell_regrown (blk_cell X2.out 3)
      have y4 := cell_regrown (blk_cell X2.out 4)
      have y5 := cell_regrown (blk_cell X2.out 5)
      have y6 := cell_regrown (blk_cell X2.out 6)
      have y7 := cell_regrown (blk_cell X2.out 7)
      have cHQ : ∀ (d : Nat) (os : Array Obj), Calls Try.prog 29 #[.int .i64 n, .int .i64 c.size] (grow (redrawn w2 d) os) fun e w'' => e = .returned (.int .i64 (al)) ∧ ∃ p : Regrown, w'' = grow (redrawn w2 p.d) p.os := fun d os =>
        Calls.regrown_of (HA.out _)
      have HQ := Lib.hid cHQ
      clear cHQ
      have cHP : ∀ (d : Nat) (os : Array Obj), Calls Try.prog 30 #[.int .i64 n, .int .i64 c.size] (grow (redrawn w2 d) os) fun e w'' => e = .returned (.int .i64 (md)) ∧ ∃ p : Regrown, w'' = grow (redrawn w2 p.d) p.os := fun d os =>
        Calls.regrown_of (HD.out _)
      have HP := Lib.hid cHP
      clear cHP
      go_wp2_with fail
      refine wp_region_quiet_below (by kernel_rfl) (by kernel_rfl) ?_
      repeat (first | go_big_quiet_step (first | exact HQ.out _ _ | exact HP.out _ _) | quiet_step (first | exact HQ.out _ _ | exact HP.out _ _))
      refine wpQuiet_nil ?_
      intro _ hw'
      obtain ⟨⟨dq, osq⟩, hw''⟩ := hw'
      subst hw''
      have B5 := B2.out.trans ((below_regrown _ dq osq).mono B2.out.size)
      go_wp2_with fail
      go_ret
      exact ⟨by rw [HR.out]; rfl, B5⟩
  · have dt := decide_eq_false g1
    rw [show freeS c n = 0 from if_neg g1]
    go_enter Try.func10, Try.ntmps10
    go_wp2_with fail
    refine (ris_any _ _ c n (H.out.below B0.out)).mono ?_
    rw [dt]
    rintro e w1 ⟨rfl, b1⟩
    have B1 := Lib.hid (B0.out.trans (b1.mono B0.out.size))
    have X1 := Lib.hid (below_blk b1 X0.out (by simp))
    have x0 := blk_cell X1.out 0
    have x1 := blk_cell X1.out 1
    have x2 := blk_cell X1.out 2
    have x3 := blk_cell X1.out 3
    have x4 := blk_cell X1.out 4
    have x5 := blk_cell X1.out 5
    have x6 := blk_cell X1.out 6
    have x7 := blk_cell X1.out 7
    have hz1 := b1.size
    simp only [World.size_alloc] at hz1
    clear b1
    go_wp2_with fail
    go_ret
    exact ⟨rfl, B1.out⟩
theorem rtick_any (w : World) (v : Value) (c : Cf) (h : CV w v c) (ok : OkMay c) : Calls Try.prog 12 #[v] w fun e w' => e = .returned (.int .i64 (tickS c)) ∧ Below w.heap.size w w' := by
  have H := Lib.hid h
  obtain ⟨ac, cc, ak, ck, rfl, h1, h2⟩ := h
  have B0 := Lib.hid ((Below.refl w.heap.size w).alloc (Nat.le_refl _) (.cells #[.int .i64 c.size, .int .i64 c.pages, .slice ac c.classes.length cc, .slice ak c.keep.length ck, .int .i64 c.step, .int .i64 c.slots, .int .i64 c.gens, .int .i64 c.most] 24))
  have X0 := Lib.hid (blk_new w (.cells #[.int .i64 c.size, .int .i64 c.pages, .slice ac c.classes.length cc, .slice ak c.keep.length ck, .int .i64 c.step, .int .i64 c.slots, .int .i64 c.gens, .int .i64 c.most] 24))
  have hp := ok.pos
  have hst := ok.step
  have e1 : IntKind.i64.wrap (10 * (c.classes.length : Int)) = 10 * (c.classes.length : Int) := IntWalk.i64_in _ (by omega)
  clear h1 h2 ok
  go_enter Try.func12, Try.ntmps12
  go_wp2_with fail
  go_ret
  exact ⟨rfl, B0.out⟩
end Go.Proofs.Ytigojdhhgdfnkaa
