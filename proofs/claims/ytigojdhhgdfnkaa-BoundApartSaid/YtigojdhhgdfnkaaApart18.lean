/- The law BoundApart. -/
import Derived.Test.YtigojdhhgdfnkaaLaw18
import Derived.Deep.Cut
namespace Go.Proofs.Ytigojdhhgdfnkaa
open Go.RowKit Go.Sort
set_option linter.unusedVariables false

def mixC (c dd : Cf) : Cf := ⟨c.size, dd.pages, c.classes, dd.keep, c.step, dd.slots, dd.gens, c.most⟩
set_option maxRecDepth 100000 in
set_option maxHeartbeats 8000000 in
theorem apart_any (w : World) (v u : Value) (c dd : Cf) (s0 s1 : Int) (h : CV w v c) (hd : CV w u dd) (hs0 : -9223372036854775808 ≤ s0 ∧ s0 ≤ 9223372036854775807) (hs1 : -9223372036854775808 ≤ s1 ∧ s1 ≤ 9223372036854775807) : Calls Try.prog 4 #[v, u, .agg #[.int .i64 s0, .int .i64 s1]] w fun e w' => e = .returned (.bool true) ∧ Below w.heap.size w w' := by
  have H := Lib.hid h
  obtain ⟨ac, cc, ak, ck, rfl, h1, h2⟩ := h
  obtain ⟨ad, cd, al, cl, rfl, h3, h4⟩ := hd
  have B0 := Lib.hid ((((Below.refl w.heap.size w).alloc (Nat.le_refl _) (.cells #[.int .i64 c.size, .int .i64 c.pages, .slice ac c.classes.length cc, .slice ak c.keep.length ck, .int .i64 c.step, .int .i64 c.slots, .int .i64 c.gens, .int .i64 c.most] 24)).alloc (by simp) (.cells #[.int .i64 dd.size, .int .i64 dd.pages, .slice ad dd.classes.length cd, .slice al dd.keep.length cl, .int .i64 dd.step, .int .i64 dd.slots, .int .i64 dd.gens, .int .i64 dd.most] 24)).alloc (by simp; omega) (.cells #[.int .i64 s0, .int .i64 s1] 29))
  have X0 : Hid ((((w.alloc (.cells #[.int .i64 c.size, .int .i64 c.pages, .slice ac c.classes.length cc, .slice ak c.keep.length ck, .int .i64 c.step, .int .i64 c.slots, .int .i64 c.gens, .int .i64 c.most] 24)).alloc (.cells #[.int .i64 dd.size, .int .i64 dd.pages, .slice ad dd.classes.length cd, .slice al dd.keep.length cl, .int .i64 dd.step, .int .i64 dd.slots, .int .i64 dd.gens, .int .i64 dd.most] 24)).alloc (.cells #[.int .i64 s0, .int .i64 s1] 29)).heap[w.heap.size]? = some (.cells #[.int .i64 c.size, .int .i64 c.pages, .slice ac c.classes.length cc, .slice ak c.keep.length ck, .int .i64 c.step, .int .i64 c.slots, .int .i64 c.gens, .int .i64 c.most] 24 (0, 0))) := Lib.hid (blk_alloc (blk_alloc (blk_new w (.cells #[.int .i64 c.size, .int .i64 c.pages, .slice ac c.classes.length cc, .slice ak c.keep.length ck, .int .i64 c.step, .int .i64 c.slots, .int .i64 c.gens, .int .i64 c.most] 24)) _) _)
  have Y0 : Hid ((((w.alloc (.cells #[.int .i64 c.size, .int .i64 c.pages, .slice ac c.classes.length cc, .slice ak c.keep.length ck, .int .i64 c.step, .int .i64 c.slots, .int .i64 c.gens, .int .i64 c.most] 24)).alloc (.cells #[.int .i64 dd.size, .int .i64 dd.pages, .slice ad dd.classes.length cd, .slice al dd.keep.length cl, .int .i64 dd.step, .int .i64 dd.slots, .int .i64 dd.gens, .int .i64 dd.most] 24)).alloc (.cells #[.int .i64 s0, .int .i64 s1] 29)).heap[w.heap.size + 1]? = some (.cells #[.int .i64 dd.size, .int .i64 dd.pages, .slice ad dd.classes.length cd, .slice al dd.keep.length cl, .int .i64 dd.step, .int .i64 dd.slots, .int .i64 dd.gens, .int .i64 dd.most] 24 (0, 0))) := Lib.hid (blk_alloc (by have := blk_new (w.alloc (.cells #[.int .i64 c.size, .int .i64 c.pages, .slice ac c.classes.length cc, .slice ak c.keep.length ck, .int .i64 c.step, .int .i64 c.slots, .int .i64 c.gens, .int .i64 c.most] 24)) (.cells #[.int .i64 dd.size, .int .i64 dd.pages, .slice ad dd.classes.length cd, .slice al dd.keep.length cl, .int .i64 dd.step, .int .i64 dd.slots, .int .i64 dd.gens, .int .i64 dd.most] 24); simpa using this) _)
  have Z0 : Hid ((((w.alloc (.cells #[.int .i64 c.size, .int .i64 c.pages, .slice ac c.classes.length cc, .slice ak c.keep.length ck, .int .i64 c.step, .int .i64 c.slots, .int .i64 c.gens, .int .i64 c.most] 24)).alloc (.cells #[.int .i64 dd.size, .int .i64 dd.pages, .slice ad dd.classes.length cd, .slice al dd.keep.length cl, .int .i64 dd.step, .int .i64 dd.slots, .int .i64 dd.gens, .int .i64 dd.most] 24)).alloc (.cells #[.int .i64 s0, .int .i64 s1] 29)).heap[w.heap.size + 1 + 1]? = some (.cells #[.int .i64 s0, .int .i64 s1] 29 (0, 0))) := Lib.hid (by have := blk_new ((w.alloc (.cells #[.int .i64 c.size, .int .i64 c.pages, .slice ac c.classes.length cc, .slice ak c.keep.length ck, .int .i64 c.step, .int .i64 c.slots, .int .i64 c.gens, .int .i64 c.most] 24)).alloc (.cells #[.int .i64 dd.size, .int .i64 dd.pages, .slice ad dd.classes.length cd, .slice al dd.keep.length cl, .int .i64 dd.step, .int .i64 dd.slots, .int .i64 dd.gens, .int .i64 dd.most] 24)) (.cells #[.int .i64 s0, .int .i64 s1] 29); simpa using this)
  have H1 := Lib.hid h1
  have H4 := Lib.hid h4
  clear h1 h2 h3 h4
  go_enter Try.func4, Try.ntmps4
  go_wp2_with fail
  refine (lawake _).mono ?_
  rintro e w1 ⟨rfl, b1⟩
  have B1 := Lib.hid (B0.out.trans (b1.mono B0.out.size))
  have X1 := Lib.hid (below_blk b1 X0.out (blk_lt X0.out))
  have Y1 := Lib.hid (below_blk b1 Y0.out (blk_lt Y0.out))
  have Z1 := Lib.hid (below_blk b1 Z0.out (blk_lt Z0.out))
  have hx1 := blk_lt X1.out
  have hy1 := blk_lt Y1.out
  have hz1 := blk_lt Z1.out
  have x0 := blk_cell X1.out 0
  have x1 := blk_cell X1.out 1
  have x2 := blk_cell X1.out 2
  have x3 := blk_cell X1.out 3
  have x4 := blk_cell X1.out 4
  have x5 := blk_cell X1.out 5
  have x6 := blk_cell X1.out 6
  have x7 := blk_cell X1.out 7
  have y0 := blk_cell Y1.out 0
  have y1 := blk_cell Y1.out 1
  have y2 := blk_cell Y1.out 2
  have y3 := blk_cell Y1.out 3
  have y4 := blk_cell Y1.out 4
  have y5 := blk_cell Y1.out 5
  have y6 := blk_cell Y1.out 6
  have y7 := blk_cell Y1.out 7
  clear b1
  have bE := (Below.refl w1.heap.size w1).alloc (Nat.le_refl _) (.cells #[.int .i64 c.size, .int .i64 dd.pages, .slice ac c.classes.length cc, .slice al dd.keep.length cl, .int .i64 c.step, .int .i64 dd.slots, .int .i64 dd.gens, .int .i64 c.most] 24)
  have C2 : Hid (CV (w1.alloc (.cells #[.int .i64 c.size, .int .i64 dd.pages, .slice ac c.classes.length cc, .slice al dd.keep.length cl, .int .i64 c.step, .int .i64 dd.slots, .int .i64 dd.gens, .int .i64 c.most] 24)) (.agg #[.int .i64 c.size, .int .i64 c.pages, .slice ac c.classes.length cc, .slice ak c.keep.length ck, .int .i64 c.step, .int .i64 c.slots, .int .i64 c.gens, .int .i64 c.most]) c) := Lib.hid ((H.out.below B1.out).below bE)
  have D2 : Hid (CV (w1.alloc (.cells #[.int .i64 c.size, .int .i64 dd.pages, .slice ac c.classes.length cc, .slice al dd.keep.length cl, .int .i64 c.step, .int .i64 dd.slots, .int .i64 dd.gens, .int .i64 c.most] 24)) (.agg #[.int .i64 c.size, .int .i64 dd.pages, .slice ac c.classes.length cc, .slice al dd.keep.length cl, .int .i64 c.step, .int .i64 dd.slots, .int .i64 dd.gens, .int .i64 c.most]) (mixC c dd)) := Lib.hid ⟨ac, cc, al, cl, rfl, (H1.out.keep B1.out).keep bE, (H4.out.keep B1.out).keep bE⟩
  have X2 := Lib.hid (below_blk bE X1.out hx1)
  have Z2 := Lib.hid (below_blk bE Z1.out hz1)
  have E2 := Lib.hid (blk_new w1 (.cells #[.int .i64 c.size, .int .i64 dd.pages, .slice ac c.classes.length cc, .slice al dd.keep.length cl, .int .i64 c.step, .int .i64 dd.slots, .int .i64 dd.gens, .int .i64 c.most] 24))
  have B2 := Lib.hid (B1.out.alloc B1.out.size (.cells #[.int .i64 c.size, .int .i64 dd.pages, .slice ac c.classes.length cc, .slice al dd.keep.length cl, .int .i64 c.step, .int .i64 dd.slots, .int .i64 dd.gens, .int .i64 c.most] 24))
  clear bE
  go_upto_region 7 with fail
  first
    | have hworld : True := trivial
  clear hworld
  clear x0 x1 x2 x3 x4 x5 x6 x7 y0 y1 y2 y3 y4 y5 y6 y7
  have mx0 := blk_cell X2.out 0
  have mx1 := blk_cell X2.out 1
  have mx2 := blk_cell X2.out 2
  have mx3 := blk_cell X2.out 3
  have mx4 := blk_cell X2.out 4
  have mx5 := blk_cell X2.out 5
  have mx6 := blk_cell X2.out 6
  have mx7 := blk_cell X2.out 7
  have me0 := blk_cell E2.out 0
  have me1 := blk_cell E2.out 1
  have me2 := blk_cell E2.out 2
  have me3 := blk_cell E2.out 3
  have me4 := blk_cell E2.out 4
  have me5 := blk_cell E2.out 5
  have me6 := blk_cell E2.out 6
  have me7 := blk_cell E2.out 7
  have mz0 := blk_cell Z2.out 0
  have mz1 := blk_cell Z2.out 1
  generalize w1.alloc (.cells #[.int .i64 c.size, .int .i64 dd.pages, .slice ac c.classes.length cc, .slice al dd.keep.length cl, .int .i64 c.step, .int .i64 dd.slots, .int .i64 dd.gens, .int .i64 c.most] 24) = w2 at C2 D2 X2 Z2 E2 B2 mx0 mx1 mx2 mx3 mx4 mx5 mx6 mx7 me0 me1 me2 me3 me4 me5 me6 me7 mz0 mz1 ⊢
  go_wp2_with fail
  refine (rmay03_any _ _ c C2.out).mono ?_
  rintro e w3 ⟨r, rfl, hr, b3⟩
  have C3 := Lib.hid (C2.out.below b3)
  have D3 := Lib.hid (D2.out.below b3)
  have X3 := Lib.hid (below_blk b3 X2.out (blk_lt X2.out))
  have E3 := Lib.hid (below_blk b3 E2.out (blk_lt E2.out))
  have Z3 := Lib.hid (below_blk b3 Z2.out (blk_lt Z2.out))
  have B3 := Lib.hid (B2.out.trans (b3.mono B2.out.size))
  clear b3 mx0 mx1 mx2 mx3 mx4 mx5 mx6 mx7 me0 me1 me2 me3 me4 me5 me6 me7 mz0 mz1
  have nx0 := blk_cell X3.out 0
  have nx1 := blk_cell X3.out 1
  have nx2 := blk_cell X3.out 2
  have nx3 := blk_cell X3.out 3
  have nx4 := blk_cell X3.out 4
  have nx5 := blk_cell X3.out 5
  have nx6 := blk_cell X3.out 6
  have nx7 := blk_cell X3.out 7
  have ne0 := blk_cell E3.out 0
  have ne1 := blk_cell E3.out 1
  have ne2 := blk_cell E3.out 2
  have ne3 := blk_cell E3.out 3
  have ne4 := blk_cell E3.out 4
  have ne5 := blk_cell E3.out 5
  have ne6 := blk_cell E3.out 6
  have ne7 := blk_cell E3.out 7
  have nz0 := blk_cell Z3.out 0
  have nz1 := blk_cell Z3.out 1
  by_cases hr0 : r = 0
  · have ok := hr hr0
    subst hr0
    clear hr
    go_wp2_with fail
    refine (rmay03_any _ _ (mixC c dd) D3.out).mono ?_
    rintro e w4 ⟨r, rfl, hr, b4⟩
    have C4 := Lib.hid (C3.out.below b4)
    have D4 := Lib.hid (D3.out.below b4)
    have X4 := Lib.hid (below_blk b4 X3.out (blk_lt X3.out))
    have E4 := Lib.hid (below_blk b4 E3.out (blk_lt E3.out))
    have Z4 := Lib.hid (below_blk b4 Z3.out (blk_lt Z3.out))
    have B4 := Lib.hid (B3.out.trans (b4.mono B3.out.size))
    clear b4 nx0 nx1 nx2 nx3 nx4 nx5 nx6 nx7 ne0 ne1 ne2 ne3 ne4 ne5 ne6 ne7 nz0 nz1
    by_cases hr0 : r = 0
    · have ok2 := hr hr0
      subst hr0
      clear hr
      have kx0 := cell_regrown (blk_cell X4.out 0)
      have kx1 := cell_regrown (blk_cell X4.out 1)
      have kx2 := cell_regrown (blk_cell X4.out 2)
      have kx3 := cell_regrown (blk_cell X4.out 3)
      have kx4 := cell_regrown (blk_cell X4.out 4)
      have kx5 := cell_regrown (blk_cell X4.out 5)
      have kx6 := cell_regrown (blk_cell X4.out 6)
      have kx7 := cell_regrown (blk_cell X4.out 7)
      have ke0 := cell_regrown (blk_cell E4.out 0)
      have ke1 := cell_regrown (blk_cell E4.out 1)
      have ke2 := cell_regrown (blk_cell E4.out 2)
      have ke3 := cell_regrown (blk_cell E4.out 3)
      have ke4 := cell_regrown (blk_cell E4.out 4)
      have ke5 := cell_regrown (blk_cell E4.out 5)
      have ke6 := cell_regrown (blk_cell E4.out 6)
      have ke7 := cell_regrown (blk_cell E4.out 7)
      have kz0 := cell_regrown (blk_cell Z4.out 0)
      have kz1 := cell_regrown (blk_cell Z4.out 1)
      have cQA : ∀ (d : Nat) (os : Array Obj), Calls Try.prog 7 #[.agg #[.int .i64 c.size, .int .i64 c.pages, .slice ac c.classes.length cc, .slice ak c.keep.length ck, .int .i64 c.step, .int .i64 c.slots, .int .i64 c.gens, .int .i64 c.most], .int .i64 s0] (grow (redrawn w4 d) os) fun e w'' => e = .returned (.int .i64 (allocS c s0)) ∧ ∃ p : Regrown, w'' = grow (redrawn w4 p.d) p.os := fun d os =>
        Calls.regrown_of (alloc_any _ _ c s0 (C4.out.below (below_regrown _ d os)) ok)
      have QA := Lib.hid cQA
      clear cQA
      have cRA : ∀ (d : Nat) (os : Array Obj), Calls Try.prog 7 #[.agg #[.int .i64 c.size, .int .i64 dd.pages, .slice ac c.classes.length cc, .slice al dd.keep.length cl, .int .i64 c.step, .int .i64 dd.slots, .int .i64 dd.gens, .int .i64 c.most], .int .i64 s0] (grow (redrawn w4 d) os) fun e w'' => e = .returned (.int .i64 (allocS c s0)) ∧ ∃ p : Regrown, w'' = grow (redrawn w4 p.d) p.os := fun d os =>
        Calls.regrown_of (alloc_any _ _ (mixC c dd) s0 (D4.out.below (below_regrown _ d os)) ok2)
      have RA := Lib.hid cRA
      clear cRA
      have cQF : ∀ (d : Nat) (os : Array Obj), Calls Try.prog 9 #[.agg #[.int .i64 c.size, .int .i64 c.pages, .slice ac c.classes.length cc, .slice ak c.keep.length ck, .int .i64 c.step, .int .i64 c.slots, .int .i64 c.gens, .int .i64 c.most], .int .i64 s0] (grow (redrawn w4 d) os) fun e w'' => e = .returned (.int .i64 (freeS c s0)) ∧ ∃ p : Regrown, w'' = grow (redrawn w4 p.d) p.os := fun d os =>
        Calls.regrown_of (free_any _ _ c s0 (C4.out.below (below_regrown _ d os)) ok)
      have QF := Lib.hid cQF
      clear cQF
      have cRF : ∀ (d : Nat) (os : Array Obj), Calls Try.prog 9 #[.agg #[.int .i64 c.size, .int .i64 dd.pages, .slice ac c.classes.length cc, .slice al dd.keep.length cl, .int .i64 c.step, .int .i64 dd.slots, .int .i64 dd.gens, .int .i64 c.most], .int .i64 s0] (grow (redrawn w4 d) os) fun e w'' => e = .returned (.int .i64 (freeS c s0)) ∧ ∃ p : Regrown, w'' = grow (redrawn w4 p.d) p.os := fun d os =>
        Calls.regrown_of (free_any _ _ (mixC c dd) s0 (D4.out.below (below_regrown _ d os)) ok2)
      have RF := Lib.hid cRF
      clear cRF
      generalize allocS c s0 = v1 at QA RA
      generalize freeS c s0 = v2 at QF RF
      go_wp2_with fail
      refine wp_region_quiet_below (by kernel_rfl) (by kernel_rfl) ?_
      repeat (first | go_big_quiet_step (first | with_reducible exact QA.out _ _ | with_reducible exact RA.out _ _ | with_reducible exact QF.out _ _ | with_reducible exact RF.out _ _) | quiet_step (first | with_reducible exact QA.out _ _ | with_reducible exact RA.out _ _ | with_reducible exact QF.out _ _ | with_reducible exact RF.out _ _))
      refine wpQuiet_nil ?_
      intro _ hw'
      obtain ⟨⟨dq, osq⟩, hw''⟩ := hw'
      subst hw''
      have b5 := below_regrown w4 dq osq
      generalize grow (redrawn w4 dq) osq = w5 at b5 ⊢
      have C5 := Lib.hid (C4.out.below b5)
      have D5 := Lib.hid (D4.out.below b5)
      have X5 := Lib.hid (below_blk b5 X4.out (blk_lt X4.out))
      have E5 := Lib.hid (below_blk b5 E4.out (blk_lt E4.out))
      have Z5 := Lib.hid (below_blk b5 Z4.out (blk_lt Z4.out))
      have B5 := Lib.hid (B4.out.trans (b5.mono B4.out.size))
      clear b5 QA RA QF RF kx0 kx1 kx2 kx3 kx4 kx5 kx6 kx7 ke0 ke1 ke2 ke3 ke4 ke5 ke6 ke7 kz0 kz1
      have kx0 := cell_regrown (blk_cell X5.out 0)
      have kx1 := cell_regrown (blk_cell X5.out 1)
      have kx2 := cell_regrown (blk_cell X5.out 2)
      have kx3 := cell_regrown (blk_cell X5.out 3)
      have kx4 := cell_regrown (blk_cell X5.out 4)
      have kx5 := cell_regrown (blk_cell X5.out 5)
      have kx6 := cell_regrown (blk_cell X5.out 6)
      have kx7 := cell_regrown (blk_cell X5.out 7)
      have ke0 := cell_regrown (blk_cell E5.out 0)
      have ke1 := cell_regrown (blk_cell E5.out 1)
      have ke2 := cell_regrown (blk_cell E5.out 2)
      have ke3 := cell_regrown (blk_cell E5.out 3)
      have ke4 := cell_regrown (blk_cell E5.out 4)
      have ke5 := cell_regrown (blk_cell E5.out 5)
      have ke6 := cell_regrown (blk_cell E5.out 6)
      have ke7 := cell_regrown (blk_cell E5.out 7)
      have kz0 := cell_regrown (blk_cell Z5.out 0)
      have kz1 := cell_regrown (blk_cell Z5.out 1)
      have cQR : ∀ (d : Nat) (os : Array Obj), Calls Try.prog 13 #[.agg #[.int .i64 c.size, .int .i64 c.pages, .slice ac c.classes.length cc, .slice ak c.keep.length ck, .int .i64 c.step, .int .i64 c.slots, .int .i64 c.gens, .int .i64 c.most], .int .i64 s0, .int .i64 s1] (grow (redrawn w5 d) os) fun e w'' => e = .returned (.int .i64 (accS c s0 s1 1)) ∧ ∃ p : Regrown, w'' = grow (redrawn w5 p.d) p.os := fun d os =>
        Calls.regrown_of (read_any _ _ c s0 s1 (C5.out.below (below_regrown _ d os)) ok hs1)
      have QR := Lib.hid cQR
      clear cQR
      have cRR : ∀ (d : Nat) (os : Array Obj), Calls Try.prog 13 #[.agg #[.int .i64 c.size, .int .i64 dd.pages, .slice ac c.classes.length cc, .slice al dd.keep.length cl, .int .i64 c.step, .int .i64 dd.slots, .int .i64 dd.gens, .int .i64 c.most], .int .i64 s0, .int .i64 s1] (grow (redrawn w5 d) os) fun e w'' => e = .returned (.int .i64 (accS c s0 s1 1)) ∧ ∃ p : Regrown, w'' = grow (redrawn w5 p.d) p.os := fun d os =>
        Calls.regrown_of (read_any _ _ (mixC c dd) s0 s1 (D5.out.below (below_regrown _ d os)) ok2 hs1)
      have RR := Lib.hid cRR
      clear cRR
      have cQW : ∀ (d : Nat) (os : Array Obj), Calls Try.prog 14 #[.agg #[.int .i64 c.size, .int .i64 c.pages, .slice ac c.classes.length cc, .slice ak c.keep.length ck, .int .i64 c.step, .int .i64 c.slots, .int .i64 c.gens, .int .i64 c.most], .int .i64 s0, .int .i64 s1] (grow (redrawn w5 d) os) fun e w'' => e = .returned (.int .i64 (accS c s0 s1 2)) ∧ ∃ p : Regrown, w'' = grow (redrawn w5 p.d) p.os := fun d os =>
        Calls.regrown_of (write_any _ _ c s0 s1 (C5.out.below (below_regrown _ d os)) ok hs1)
      have QW := Lib.hid cQW
      clear cQW
      have cRW : ∀ (d : Nat) (os : Array Obj), Calls Try.prog 14 #[.agg #[.int .i64 c.size, .int .i64 dd.pages, .slice ac c.classes.length cc, .slice al dd.keep.length cl, .int .i64 c.step, .int .i64 dd.slots, .int .i64 dd.gens, .int .i64 c.most], .int .i64 s0, .int .i64 s1] (grow (redrawn w5 d) os) fun e w'' => e = .returned (.int .i64 (accS c s0 s1 2)) ∧ ∃ p : Regrown, w'' = grow (redrawn w5 p.d) p.os := fun d os =>
        Calls.regrown_of (write_any _ _ (mixC c dd) s0 s1 (D5.out.below (below_regrown _ d os)) ok2 hs1)
      have RW := Lib.hid cRW
      clear cRW
      generalize accS c s0 s1 1 = v3 at QR RR
      generalize accS c s0 s1 2 = v4 at QW RW
      go_wp2_with fail
      refine wp_region_quiet_below (by kernel_rfl) (by kernel_rfl) ?_
      repeat (first | go_big_quiet_step (first | with_reducible exact QR.out _ _ | with_reducible exact RR.out _ _ | with_reducible exact QW.out _ _ | with_reducible exact RW.out _ _) | quiet_step (first | with_reducible exact QR.out _ _ | with_reducible exact RR.out _ _ | with_reducible exact QW.out _ _ | with_reducible exact RW.out _ _))
      refine wpQuiet_nil ?_
      intro _ hw'
      obtain ⟨⟨dq, osq⟩, hw''⟩ := hw'
      subst hw''
      have b6 := below_regrown w5 dq osq
      generalize grow (redrawn w5 dq) osq = w6 at b6 ⊢
      have C6 := Lib.hid (C5.out.below b6)
      have D6 := Lib.hid (D5.out.below b6)
      have X6 := Lib.hid (below_blk b6 X5.out (blk_lt X5.out))
      have E6 := Lib.hid (below_blk b6 E5.out (blk_lt E5.out))
      have Z6 := Lib.hid (below_blk b6 Z5.out (blk_lt Z5.out))
      have B6 := Lib.hid (B5.out.trans (b6.mono B5.out.size))
      clear b6 QR RR QW RW kx0 kx1 kx2 kx3 kx4 kx5 kx6 kx7 ke0 ke1 ke2 ke3 ke4 ke5 ke6 ke7 kz0 kz1
      have kx0 := cell_regrown (blk_cell X6.out 0)
      have kx1 := cell_regrown (blk_cell X6.out 1)
      have kx2 := cell_regrown (blk_cell X6.out 2)
      have kx3 := cell_regrown (blk_cell X6.out 3)
      have kx4 := cell_regrown (blk_cell X6.out 4)
      have kx5 := cell_regrown (blk_cell X6.out 5)
      have kx6 := cell_regrown (blk_cell X6.out 6)
      have kx7 := cell_regrown (blk_cell X6.out 7)
      have ke0 := cell_regrown (blk_cell E6.out 0)
      have ke1 := cell_regrown (blk_cell E6.out 1)
      have ke2 := cell_regrown (blk_cell E6.out 2)
      have ke3 := cell_regrown (blk_cell E6.out 3)
      have ke4 := cell_regrown (blk_cell E6.out 4)
      have ke5 := cell_regrown (blk_cell E6.out 5)
      have ke6 := cell_regrown (blk_cell E6.out 6)
      have ke7 := cell_regrown (blk_cell E6.out 7)
      have kz0 := cell_regrown (blk_cell Z6.out 0)
      have kz1 := cell_regrown (blk_cell Z6.out 1)
      have cQZ : ∀ (d : Nat) (os : Array Obj), Calls Try.prog 15 #[.agg #[.int .i64 c.size, .int .i64 c.pages, .slice ac c.classes.length cc, .slice ak c.keep.length ck, .int .i64 c.step, .int .i64 c.slots, .int .i64 c.gens, .int .i64 c.most], .int .i64 s0, .int .i64 s1] (grow (redrawn w6 d) os) fun e w'' => e = .returned (.int .i64 (resizeS c s0 s1)) ∧ ∃ p : Regrown, w'' = grow (redrawn w6 p.d) p.os := fun d os =>
        Calls.regrown_of (resize_any _ _ c s0 s1 (C6.out.below (below_regrown _ d os)) ok hs1.2)
      have QZ := Lib.hid cQZ
      clear cQZ
      have cRZ : ∀ (d : Nat) (os : Array Obj), Calls Try.prog 15 #[.agg #[.int .i64 c.size, .int .i64 dd.pages, .slice ac c.classes.length cc, .slice al dd.keep.length cl, .int .i64 c.step, .int .i64 dd.slots, .int .i64 dd.gens, .int .i64 c.most], .int .i64 s0, .int .i64 s1] (grow (redrawn w6 d) os) fun e w'' => e = .returned (.int .i64 (resizeS c s0 s1)) ∧ ∃ p : Regrown, w'' = grow (redrawn w6 p.d) p.os := fun d os =>
        Calls.regrown_of (resize_any _ _ (mixC c dd) s0 s1 (D6.out.below (below_regrown _ d os)) ok2 hs1.2)
      have RZ := Lib.hid cRZ
      clear cRZ
      have cQT : ∀ (d : Nat) (os : Array Obj), Calls Try.prog 11 #[.agg #[.int .i64 c.size, .int .i64 c.pages, .slice ac c.classes.length cc, .slice ak c.keep.length ck, .int .i64 c.step, .int .i64 c.slots, .int .i64 c.gens, .int .i64 c.most]] (grow (redrawn w6 d) os) fun e w'' => e = .returned (.int .i64 (tickS c)) ∧ ∃ p : Regrown, w'' = grow (redrawn w6 p.d) p.os := fun d os =>
        Calls.regrown_of (tick_any _ _ c (C6.out.below (below_regrown _ d os)) ok)
      have QT := Lib.hid cQT
      clear cQT
      have cRT : ∀ (d : Nat) (os : Array Obj), Calls Try.prog 11 #[.agg #[.int .i64 c.size, .int .i64 dd.pages, .slice ac c.classes.length cc, .slice al dd.keep.length cl, .int .i64 c.step, .int .i64 dd.slots, .int .i64 dd.gens, .int .i64 c.most]] (grow (redrawn w6 d) os) fun e w'' => e = .returned (.int .i64 (tickS c)) ∧ ∃ p : Regrown, w'' = grow (redrawn w6 p.d) p.os := fun d os =>
        Calls.regrown_of (tick_any _ _ (mixC c dd) (D6.out.below (below_regrown _ d os)) ok2)
      have RT := Lib.hid cRT
      clear cRT
      generalize resizeS c s0 s1 = v5 at QZ RZ
      generalize tickS c = v6 at QT RT
      go_wp2_with fail
      refine wp_region_quiet_below (by kernel_rfl) (by kernel_rfl) ?_
      repeat (first | go_big_quiet_step (first | with_reducible exact QZ.out _ _ | with_reducible exact RZ.out _ _ | with_reducible exact QT.out _ _ | with_reducible exact RT.out _ _) | quiet_step (first | with_reducible exact QZ.out _ _ | with_reducible exact RZ.out _ _ | with_reducible exact QT.out _ _ | with_reducible exact RT.out _ _))
      refine wpQuiet_nil ?_
      intro _ hw'
      obtain ⟨⟨dq, osq⟩, hw''⟩ := hw'
      subst hw''
      have B7 := B6.out.trans ((below_regrown _ dq osq).mono B6.out.size)
      go_wp2_with fail
      go_ret
      exact ⟨rfl, B7⟩
    · go_wp2_with fail
      go_ret
      exact ⟨rfl, B4.out⟩
  · go_wp2_with fail
    go_ret
    exact ⟨rfl, B3.out⟩
end Go.Proofs.Ytigojdhhgdfnkaa
