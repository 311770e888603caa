/- bound's Resize. -/
import Derived.Test.YtigojdhhgdfnkaaBound4
import Derived.Deep.Cut
import Derived.Deep.CutRange
namespace Go.Proofs.Ytigojdhhgdfnkaa
open Go.RowKit Go.Sort
set_option linter.unusedVariables false

theorem alloc_bounds {c : Cf} (ok : OkMay c) (n : Int) : 0 ≤ allocS c n ∧ allocS c n ≤ 3000000 := by
  unfold allocS eitherS
  split
  · rename_i h
    split
    · rename_i h2
      have := blk_bounds ok h.1 h2
      omega
    · have := large_bounds ok h.1 h.2
      have s1 := ok.size1
      have s2 := ok.size2
      have hr := mul_range (a := 2 + c.size) (b := manyS n c.size) (x := 4098) (y := 512) ⟨by omega, by omega⟩ ⟨by omega, by omega⟩
      omega
  · omega
theorem free_bounds {c : Cf} (ok : OkMay c) (n : Int) : 0 ≤ freeS c n ∧ freeS c n ≤ 3000000 := by
  unfold freeS eitherS
  split
  · rename_i h
    split
    · rename_i h2
      have := blk_bounds ok h.1 h2
      have := ok.step
      omega
    · have := large_bounds ok h.1 h.2
      omega
  · omega
theorem two_things (w : World) (c : Cf) (a b : Int) (ac : Option Addr) (cc : Nat) (ak : Option Addr) (ck : Nat) (h1 : LV 0 w (.slice ac c.classes.length cc) c.classes) (h2 : LV 0 w (.slice ak c.keep.length ck) c.keep) :
    Below w.heap.size w (((w.alloc (.cells #[.int .i64 c.size, .int .i64 c.pages, .slice ac c.classes.length cc, .slice ak c.keep.length ck, .int .i64 c.step, .int .i64 c.slots, .int .i64 c.gens, .int .i64 c.most] 24)).alloc (.cells #[.int .i64 c.size, .int .i64 c.pages, .slice ac c.classes.length cc, .slice ak c.keep.length ck, .int .i64 c.step, .int .i64 c.slots, .int .i64 c.gens, .int .i64 c.most, .int .i64 a] 35)).alloc (.cells #[.int .i64 c.size, .int .i64 c.pages, .slice ac c.classes.length cc, .slice ak c.keep.length ck, .int .i64 c.step, .int .i64 c.slots, .int .i64 c.gens, .int .i64 c.most, .int .i64 b] 35)) ∧ PC (((w.alloc (.cells #[.int .i64 c.size, .int .i64 c.pages, .slice ac c.classes.length cc, .slice ak c.keep.length ck, .int .i64 c.step, .int .i64 c.slots, .int .i64 c.gens, .int .i64 c.most] 24)).alloc (.cells #[.int .i64 c.size, .int .i64 c.pages, .slice ac c.classes.length cc, .slice ak c.keep.length ck, .int .i64 c.step, .int .i64 c.slots, .int .i64 c.gens, .int .i64 c.most, .int .i64 a] 35)).alloc (.cells #[.int .i64 c.size, .int .i64 c.pages, .slice ac c.classes.length cc, .slice ak c.keep.length ck, .int .i64 c.step, .int .i64 c.slots, .int .i64 c.gens, .int .i64 c.most, .int .i64 b] 35)) w.heap.size c ac cc ak ck ∧ PT (((w.alloc (.cells #[.int .i64 c.size, .int .i64 c.pages, .slice ac c.classes.length cc, .slice ak c.keep.length ck, .int .i64 c.step, .int .i64 c.slots, .int .i64 c.gens, .int .i64 c.most] 24)).alloc (.cells #[.int .i64 c.size, .int .i64 c.pages, .slice ac c.classes.length cc, .slice ak c.keep.length ck, .int .i64 c.step, .int .i64 c.slots, .int .i64 c.gens, .int .i64 c.most, .int .i64 a] 35)).alloc (.cells #[.int .i64 c.size, .int .i64 c.pages, .slice ac c.classes.length cc, .slice ak c.keep.length ck, .int .i64 c.step, .int .i64 c.slots, .int .i64 c.gens, .int .i64 c.most, .int .i64 b] 35)) (w.heap.size + 1) c a ac cc ak ck ∧ PT (((w.alloc (.cells #[.int .i64 c.size, .int .i64 c.pages, .slice ac c.classes.length cc, .slice ak c.keep.length ck, .int .i64 c.step, .int .i64 c.slots, .int .i64 c.gens, .int .i64 c.most] 24)).alloc (.cells #[.int .i64 c.size, .int .i64 c.pages, .slice ac c.classes.length cc, .slice ak c.keep.length ck, .int .i64 c.step, .int .i64 c.slots, .int .i64 c.gens, .int .i64 c.most, .int .i64 a] 35)).alloc (.cells #[.int .i64 c.size, .int .i64 c.pages, .slice ac c.classes.length cc, .slice ak c.keep.length ck, .int .i64 c.step, .int .i64 c.slots, .int .i64 c.gens, .int .i64 c.most, .int .i64 b] 35)) (w.heap.size + 1 + 1) c b ac cc ak ck := by
  have B0 := ((((Below.refl w.heap.size w).alloc (Nat.le_refl _) (.cells #[.int .i64 c.size, .int .i64 c.pages, .slice ac c.classes.length cc, .slice ak c.keep.length ck, .int .i64 c.step, .int .i64 c.slots, .int .i64 c.gens, .int .i64 c.most] 24)).alloc (by simp) (.cells #[.int .i64 c.size, .int .i64 c.pages, .slice ac c.classes.length cc, .slice ak c.keep.length ck, .int .i64 c.step, .int .i64 c.slots, .int .i64 c.gens, .int .i64 c.most, .int .i64 a] 35)).alloc (by simp; omega) (.cells #[.int .i64 c.size, .int .i64 c.pages, .slice ac c.classes.length cc, .slice ak c.keep.length ck, .int .i64 c.step, .int .i64 c.slots, .int .i64 c.gens, .int .i64 c.most, .int .i64 b] 35))
  refine ⟨B0, blk_alloc (blk_alloc (blk_new w (.cells #[.int .i64 c.size, .int .i64 c.pages, .slice ac c.classes.length cc, .slice ak c.keep.length ck, .int .i64 c.step, .int .i64 c.slots, .int .i64 c.gens, .int .i64 c.most] 24)) _) _, ⟨blk_alloc (by have := blk_new (w.alloc (.cells #[.int .i64 c.size, .int .i64 c.pages, .slice ac c.classes.length cc, .slice ak c.keep.length ck, .int .i64 c.step, .int .i64 c.slots, .int .i64 c.gens, .int .i64 c.most] 24)) (.cells #[.int .i64 c.size, .int .i64 c.pages, .slice ac c.classes.length cc, .slice ak c.keep.length ck, .int .i64 c.step, .int .i64 c.slots, .int .i64 c.gens, .int .i64 c.most, .int .i64 a] 35); simpa using this) _, h1.keep B0, h2.keep B0⟩, ⟨by have := blk_new ((w.alloc (.cells #[.int .i64 c.size, .int .i64 c.pages, .slice ac c.classes.length cc, .slice ak c.keep.length ck, .int .i64 c.step, .int .i64 c.slots, .int .i64 c.gens, .int .i64 c.most] 24)).alloc (.cells #[.int .i64 c.size, .int .i64 c.pages, .slice ac c.classes.length cc, .slice ak c.keep.length ck, .int .i64 c.step, .int .i64 c.slots, .int .i64 c.gens, .int .i64 c.most, .int .i64 a] 35)) (.cells #[.int .i64 c.size, .int .i64 c.pages, .slice ac c.classes.length cc, .slice ak c.keep.length ck, .int .i64 c.step, .int .i64 c.slots, .int .i64 c.gens, .int .i64 c.most, .int .i64 b] 35); simpa using this, h1.keep B0, h2.keep B0⟩⟩
set_option maxRecDepth 100000 in
set_option maxHeartbeats 8000000 in
theorem resize_any (w : World) (v : Value) (c : Cf) (old size : Int) (h : CV w v c) (ok : OkMay c) (hso : size ≤ 9223372036854775807) : Calls Try.prog 15 #[v, .int .i64 old, .int .i64 size] w fun e w' => e = .returned (.int .i64 (resizeS c old size)) ∧ Below w.heap.size w w' := by
  obtain ⟨ac, cc, ak, ck, rfl, h1, h2⟩ := h
  have T1 := Lib.hid (two_things w c old size ac cc ak ck h1 h2)
  have T2 := Lib.hid (two_things w c size old ac cc ak ck h1 h2)
  clear h1 h2
  go_enter Try.func15, Try.ntmps15
  go_upto_region 1 with fail
  go_cut [7, 8] from 7 to 14 (fun p q wx => ∃ g h, p = ptr g ∧ q = ptr h ∧ Below w.heap.size w wx ∧ PC wx w.heap.size c ac cc ak ck ∧ PT wx g c old ac cc ak ck ∧ PT wx h c size ac cc ak ck)
  case first =>
    go_region
    all_goals (go_wp2_with fail; go_meet; first
      | exact ⟨_, _, rfl, rfl, T1.out⟩
      | exact ⟨_, _, rfl, rfl, T2.out.1, T2.out.2.1, T2.out.2.2.2, T2.out.2.2.1⟩
      | exact ⟨_, _, rfl, rfl, below_drew T1.out.1, T1.out.2.1, T1.out.2.2.1.below (below_drew (Below.refl _ _)), T1.out.2.2.2.below (below_drew (Below.refl _ _))⟩
      | exact ⟨_, _, rfl, rfl, below_drew T2.out.1, T2.out.2.1, T2.out.2.2.2.below (below_drew (Below.refl _ _)), T2.out.2.2.1.below (below_drew (Below.refl _ _))⟩)
  case rest =>
    obtain ⟨g, h, rfl, rfl, b1, q, p1, p2⟩ := hcut
    have P1 := Lib.hid p1
    have P2 := Lib.hid p2
    have Q := Lib.hid q
    have B1 := Lib.hid b1
    clear b1 q p1 p2
    by_cases g1 : 1 ≤ old ∧ old ≤ c.most
    · by_cases g2 : 1 ≤ size ∧ size ≤ c.most
      · have HR := Lib.hid (show resizeS c old size = sumW [allocS c size, freeS c old, 3 * old, manyS old c.size + manyS size c.size + 4] from if_pos ⟨g1, g2⟩)
        have dt := decide_eq_true g1
        have ds := decide_eq_true g2
        have ha := alloc_bounds ok size
        have hf := free_bounds ok old
        have hm := ok.most
        have d1 := large_bounds ok g1.1 g1.2
        have d2 := large_bounds ok g2.1 g2.2
        have x0 := blk_cell P1.out.1 0
        have x1 := blk_cell P1.out.1 1
        have x2 := blk_cell P1.out.1 2
        have x3 := blk_cell P1.out.1 3
        have x4 := blk_cell P1.out.1 4
        have x5 := blk_cell P1.out.1 5
        have x6 := blk_cell P1.out.1 6
        have x7 := blk_cell P1.out.1 7
        have x8 := blk_cell P1.out.1 8
        go_wp2_with fail
        refine (is_any _ _ c old P1.out.th).mono ?_
        rw [dt]
        rintro e wA ⟨rfl, bA⟩
        have P3 := Lib.hid (P1.out.below bA)
        have P4 := Lib.hid (P2.out.below bA)
        have Q3 := Lib.hid (PC.below Q.out bA)
        have B3 := Lib.hid (B1.out.trans (bA.mono B1.out.size))
        clear bA x0 x1 x2 x3 x4 x5 x6 x7 x8
        have y0 := blk_cell P4.out.1 0
        have y1 := blk_cell P4.out.1 1
        have y2 := blk_cell P4.out.1 2
        have y3 := blk_cell P4.out.1 3
        have y4 := blk_cell P4.out.1 4
        have y5 := blk_cell P4.out.1 5
        have y6 := blk_cell P4.out.1 6
        have y7 := blk_cell P4.out.1 7
        have y8 := blk_cell P4.out.1 8
        go_wp2_with fail
        refine (is_any _ _ c size P4.out.th).mono ?_
        rw [ds]
        rintro e wB ⟨rfl, bB⟩
        have P5 := Lib.hid (P3.out.below bB)
        have P6 := Lib.hid (P4.out.below bB)
        have Q5 := Lib.hid (PC.below Q3.out bB)
        have B5 := Lib.hid (B3.out.trans (bB.mono B3.out.size))
        clear bB y0 y1 y2 y3 y4 y5 y6 y7 y8
        have HA := Lib.hid (fun W (k : Below wB.heap.size wB W) => (show Calls Try.prog 7 #[.agg #[.int .i64 c.size, .int .i64 c.pages, .slice ac c.classes.length cc, .slice ak c.keep.length ck, .int .i64 c.step, .int .i64 c.slots, .int .i64 c.gens, .int .i64 c.most], .int .i64 size] W fun e w' => e = .returned (.int .i64 (allocS c size)) ∧ Below wB.heap.size wB w' from (alloc_any W _ c size (P5.out.cv.below k) ok).mono fun e w' h => ⟨h.1, k.trans (h.2.mono k.size)⟩))
        have HF := Lib.hid (fun W (k : Below wB.heap.size wB W) => (show Calls Try.prog 9 #[.agg #[.int .i64 c.size, .int .i64 c.pages, .slice ac c.classes.length cc, .slice ak c.keep.length ck, .int .i64 c.step, .int .i64 c.slots, .int .i64 c.gens, .int .i64 c.most], .int .i64 old] W fun e w' => e = .returned (.int .i64 (freeS c old)) ∧ Below wB.heap.size wB w' from (free_any W _ c old (P5.out.cv.below k) ok).mono fun e w' h => ⟨h.1, k.trans (h.2.mono k.size)⟩))
        have HD1 := Lib.hid (fun W (k : Below wB.heap.size wB W) => (show Calls Try.prog 25 #[.agg #[.int .i64 c.size, .int .i64 c.pages, .slice ac c.classes.length cc, .slice ak c.keep.length ck, .int .i64 c.step, .int .i64 c.slots, .int .i64 c.gens, .int .i64 c.most, .int .i64 old]] W fun e w' => e = .returned (.int .i64 (manyS old c.size)) ∧ Below wB.heap.size wB w' from (tdata_any W _ c old (P5.out.th.below k) (by omega)).mono fun e w' h => ⟨h.1, k.trans (h.2.mono k.size)⟩))
        have HD2 := Lib.hid (fun W (k : Below wB.heap.size wB W) => (show Calls Try.prog 25 #[.agg #[.int .i64 c.size, .int .i64 c.pages, .slice ac c.classes.length cc, .slice ak c.keep.length ck, .int .i64 c.step, .int .i64 c.slots, .int .i64 c.gens, .int .i64 c.most, .int .i64 size]] W fun e w' => e = .returned (.int .i64 (manyS size c.size)) ∧ Below wB.heap.size wB w' from (tdata_any W _ c size (P6.out.th.below k) (by omega)).mono fun e w' h => ⟨h.1, k.trans (h.2.mono k.size)⟩))
        have HELD := Lib.hid (fun W (k : Below wB.heap.size wB W) => (show Below wB.heap.size wB W ∧ W.cell? ⟨w.heap.size, 0, none⟩ = some (.int .i64 c.size) ∧ W.cell? ⟨w.heap.size, 1, none⟩ = some (.int .i64 c.pages) ∧ W.cell? ⟨w.heap.size, 2, none⟩ = some (.slice ac c.classes.length cc) ∧ W.cell? ⟨w.heap.size, 3, none⟩ = some (.slice ak c.keep.length ck) ∧ W.cell? ⟨w.heap.size, 4, none⟩ = some (.int .i64 c.step) ∧ W.cell? ⟨w.heap.size, 5, none⟩ = some (.int .i64 c.slots) ∧ W.cell? ⟨w.heap.size, 6, none⟩ = some (.int .i64 c.gens) ∧ W.cell? ⟨w.heap.size, 7, none⟩ = some (.int .i64 c.most) ∧ W.cell? ⟨g, 0, none⟩ = some (.int .i64 c.size) ∧ W.cell? ⟨g, 1, none⟩ = some (.int .i64 c.pages) ∧ W.cell? ⟨g, 2, none⟩ = some (.slice ac c.classes.length cc) ∧ W.cell? ⟨g, 3, none⟩ = some (.slice ak c.keep.length ck) ∧ W.cell? ⟨g, 4, none⟩ = some (.int .i64 c.step) ∧ W.cell? ⟨g, 5, none⟩ = some (.int .i64 c.slots) ∧ W.cell? ⟨g, 6, none⟩ = some (.int .i64 c.gens) ∧ W.cell? ⟨g, 7, none⟩ = some (.int .i64 c.most) ∧ W.cell? ⟨g, 8, none⟩ = some (.int .i64 old) ∧ W.cell? ⟨h, 0, none⟩ = some (.int .i64 c.size) ∧ W.cell? ⟨h, 1, none⟩ = some (.int .i64 c.pages) ∧ W.cell? ⟨h, 2, none⟩ = some (.slice ac c.classes.length cc) ∧ W.cell? ⟨h, 3, none⟩ = some (.slice ak c.keep.length ck) ∧ W.cell? ⟨h, 4, none⟩ = some (.int .i64 c.step) ∧ W.cell? ⟨h, 5, none⟩ = some (.int .i64 c.slots) ∧ W.cell? ⟨h, 6, none⟩ = some (.int .i64 c.gens) ∧ W.cell? ⟨h, 7, none⟩ = some (.int .i64 c.most) ∧ W.cell? ⟨h, 8, none⟩ = some (.int .i64 size) from ⟨k, (blk_cell (PC.below Q5.out k) 0).trans rfl, (blk_cell (PC.below Q5.out k) 1).trans rfl, (blk_cell (PC.below Q5.out k) 2).trans rfl, (blk_cell (PC.below Q5.out k) 3).trans rfl, (blk_cell (PC.below Q5.out k) 4).trans rfl, (blk_cell (PC.below Q5.out k) 5).trans rfl, (blk_cell (PC.below Q5.out k) 6).trans rfl, (blk_cell (PC.below Q5.out k) 7).trans rfl, (blk_cell (below_blk k P5.out.1 (blk_lt P5.out.1)) 0).trans rfl, (blk_cell (below_blk k P5.out.1 (blk_lt P5.out.1)) 1).trans rfl, (blk_cell (below_blk k P5.out.1 (blk_lt P5.out.1)) 2).trans rfl, (blk_cell (below_blk k P5.out.1 (blk_lt P5.out.1)) 3).trans rfl, (blk_cell (below_blk k P5.out.1 (blk_lt P5.out.1)) 4).trans rfl, (blk_cell (below_blk k P5.out.1 (blk_lt P5.out.1)) 5).trans rfl, (blk_cell (below_blk k P5.out.1 (blk_lt P5.out.1)) 6).trans rfl, (blk_cell (below_blk k P5.out.1 (blk_lt P5.out.1)) 7).trans rfl, (blk_cell (below_blk k P5.out.1 (blk_lt P5.out.1)) 8).trans rfl, (blk_cell (below_blk k P6.out.1 (blk_lt P6.out.1)) 0).trans rfl, (blk_cell (below_blk k P6.out.1 (blk_lt P6.out.1)) 1).trans rfl, (blk_cell (below_blk k P6.out.1 (blk_lt P6.out.1)) 2).trans rfl, (blk_cell (below_blk k P6.out.1 (blk_lt P6.out.1)) 3).trans rfl, (blk_cell (below_blk k P6.out.1 (blk_lt P6.out.1)) 4).trans rfl, (blk_cell (below_blk k P6.out.1 (blk_lt P6.out.1)) 5).trans rfl, (blk_cell (below_blk k P6.out.1 (blk_lt P6.out.1)) 6).trans rfl, (blk_cell (below_blk k P6.out.1 (blk_lt P6.out.1)) 7).trans rfl, (blk_cell (below_blk k P6.out.1 (blk_lt P6.out.1)) 8).trans rfl⟩))
        generalize allocS c size = al at ha HA HR ⊢
        generalize freeS c old = fe at hf HF HR ⊢
        generalize manyS old c.size = m1 at d1 HD1 HR ⊢
        generalize manyS size c.size = m2 at d2 HD2 HR ⊢
        have e1 : Hid (IntKind.i64.wrap (3 * old) = 3 * old) := Lib.hid (IntWalk.i64_in _ (by omega))
        have e2 : Hid (IntKind.i64.wrap (IntKind.i64.wrap (m1 + m2) + 4) = m1 + m2 + 4) := Lib.hid (by rw [IntWalk.i64_in (m1 + m2) (by omega)]; exact IntWalk.i64_in _ (by omega))
        have e3 : Hid (IntKind.i64.wrap (m1 + m2 + 4) = m1 + m2 + 4) := Lib.hid (IntWalk.i64_in _ (by omega))
        have eq3 : IntKind.i64.wrap (3 * old) = 3 * old := e1.out
        clear ok g1 g2 hm dt ds hso
        go_wp2_with fail
        go_region_held3 (fun W => Below wB.heap.size wB W ∧ W.cell? ⟨w.heap.size, 0, none⟩ = some (.int .i64 c.size) ∧ W.cell? ⟨w.heap.size, 1, none⟩ = some (.int .i64 c.pages) ∧ W.cell? ⟨w.heap.size, 2, none⟩ = some (.slice ac c.classes.length cc) ∧ W.cell? ⟨w.heap.size, 3, none⟩ = some (.slice ak c.keep.length ck) ∧ W.cell? ⟨w.heap.size, 4, none⟩ = some (.int .i64 c.step) ∧ W.cell? ⟨w.heap.size, 5, none⟩ = some (.int .i64 c.slots) ∧ W.cell? ⟨w.heap.size, 6, none⟩ = some (.int .i64 c.gens) ∧ W.cell? ⟨w.heap.size, 7, none⟩ = some (.int .i64 c.most) ∧ W.cell? ⟨g, 0, none⟩ = some (.int .i64 c.size) ∧ W.cell? ⟨g, 1, none⟩ = some (.int .i64 c.pages) ∧ W.cell? ⟨g, 2, none⟩ = some (.slice ac c.classes.length cc) ∧ W.cell? ⟨g, 3, none⟩ = some (.slice ak c.keep.length ck) ∧ W.cell? ⟨g, 4, none⟩ = some (.int .i64 c.step) ∧ W.cell? ⟨g, 5, none⟩ = some (.int .i64 c.slots) ∧ W.cell? ⟨g, 6, none⟩ = some (.int .i64 c.gens) ∧ W.cell? ⟨g, 7, none⟩ = some (.int .i64 c.most) ∧ W.cell? ⟨g, 8, none⟩ = some (.int .i64 old) ∧ W.cell? ⟨h, 0, none⟩ = some (.int .i64 c.size) ∧ W.cell? ⟨h, 1, none⟩ = some (.int .i64 c.pages) ∧ W.cell? ⟨h, 2, none⟩ = some (.slice ac c.classes.length cc) ∧ W.cell? ⟨h, 3, none⟩ = some (.slice ak c.keep.length ck) ∧ W.cell? ⟨h, 4, none⟩ = some (.int .i64 c.step) ∧ W.cell? ⟨h, 5, none⟩ = some (.int .i64 c.slots) ∧ W.cell? ⟨h, 6, none⟩ = some (.int .i64 c.gens) ∧ W.cell? ⟨h, 7, none⟩ = some (.int .i64 c.most) ∧ W.cell? ⟨h, 8, none⟩ = some (.int .i64 size))
          (first
        | exact HELD.out _ (Below.refl _ _)
        | exact HELD.out _ (below_drew (Below.refl _ _))
        | exact HELD.out _ (bA)
        | exact HELD.out _ (bA.alloc bA.size _)
        | exact HELD.out _ (bF)
        | exact HELD.out _ (bF.alloc bF.size _)
        | exact HELD.out _ (bD)
        | exact HELD.out _ (bD.alloc bD.size _)
        | exact HELD.out _ (bE)
        | exact HELD.out _ (bE.alloc bE.size _))
          (first
        | (go_at_call 7; refine (HA.out _ (by first | assumption | exact below_drew (Below.refl _ _) | exact Below.refl _ _)).mono ?_; rintro e wA ⟨rfl, bA⟩)
        | (go_at_call 9; refine (HF.out _ (by first | assumption | exact below_drew (Below.refl _ _) | exact Below.refl _ _)).mono ?_; rintro e wF ⟨rfl, bF⟩)
        | (go_at_call 25; refine (HD1.out _ (by first | assumption | exact below_drew (Below.refl _ _) | exact Below.refl _ _)).mono ?_; rintro e wD ⟨rfl, bD⟩)
        | (go_at_call 25; refine (HD2.out _ (by first | assumption | exact below_drew (Below.refl _ _) | exact Below.refl _ _)).mono ?_; rintro e wE ⟨rfl, bE⟩)
        | (go_at_call 21; refine (sum_new4 _ _ _ _ _).mono ?_; rintro e wS ⟨rfl, rfl⟩))
        all_goals
          rename_i hH
          go_wp2_with fail
          go_ret
          refine ⟨?_, B5.out.trans (hH.1.mono B5.out.size)⟩
          rw [HR.out]
          first | rfl | (rw [e1.out, e2.out, e3.out]; rfl) | (rw [e2.out, e3.out]; rfl) | (rw [e2.out]; rfl) | (simp only [Int.mul_one, e1.out, e2.out, e3.out]; rfl)
      · have HR := Lib.hid (show resizeS c old size = 0 from if_neg (fun h => g2 h.2))
        have dt := decide_eq_true g1
        have ds := decide_eq_false g2
        clear g1 g2
        have x0 := blk_cell P1.out.1 0
        have x1 := blk_cell P1.out.1 1
        have x2 := blk_cell P1.out.1 2
        have x3 := blk_cell P1.out.1 3
        have x4 := blk_cell P1.out.1 4
        have x5 := blk_cell P1.out.1 5
        have x6 := blk_cell P1.out.1 6
        have x7 := blk_cell P1.out.1 7
        have x8 := blk_cell P1.out.1 8
        go_wp2_with fail
        refine (is_any _ _ c old P1.out.th).mono ?_
        rw [dt]
        rintro e wA ⟨rfl, bA⟩
        have P3 := Lib.hid (P1.out.below bA)
        have P4 := Lib.hid (P2.out.below bA)
        have Q3 := Lib.hid (PC.below Q.out bA)
        have B3 := Lib.hid (B1.out.trans (bA.mono B1.out.size))
        clear bA x0 x1 x2 x3 x4 x5 x6 x7 x8
        have y0 := blk_cell P4.out.1 0
        have y1 := blk_cell P4.out.1 1
        have y2 := blk_cell P4.out.1 2
        have y3 := blk_cell P4.out.1 3
        have y4 := blk_cell P4.out.1 4
        have y5 := blk_cell P4.out.1 5
        have y6 := blk_cell P4.out.1 6
        have y7 := blk_cell P4.out.1 7
        have y8 := blk_cell P4.out.1 8
        go_wp2_with fail
        refine (is_any _ _ c size P4.out.th).mono ?_
        rw [ds]
        rintro e wB ⟨rfl, bB⟩
        have P5 := Lib.hid (P3.out.below bB)
        have P6 := Lib.hid (P4.out.below bB)
        have Q5 := Lib.hid (PC.below Q3.out bB)
        have B5 := Lib.hid (B3.out.trans (bB.mono B3.out.size))
        clear bB y0 y1 y2 y3 y4 y5 y6 y7 y8
        go_wp2_with fail
        go_ret
        exact ⟨by rw [HR.out]; rfl, B5.out⟩
    · have HR := Lib.hid (show resizeS c old size = 0 from if_neg (fun h => g1 h.1))
      have dt := decide_eq_false g1
      clear g1
      have x0 := blk_cell P1.out.1 0
      have x1 := blk_cell P1.out.1 1
      have x2 := blk_cell P1.out.1 2
      have x3 := blk_cell P1.out.1 3
      have x4 := blk_cell P1.out.1 4
      have x5 := blk_cell P1.out.1 5
      have x6 := blk_cell P1.out.1 6
      have x7 := blk_cell P1.out.1 7
      have x8 := blk_cell P1.out.1 8
      go_wp2_with fail
      refine (is_any _ _ c old P1.out.th).mono ?_
      rw [dt]
      rintro e wA ⟨rfl, bA⟩
      have P3 := Lib.hid (P1.out.below bA)
      have P4 := Lib.hid (P2.out.below bA)
      have Q3 := Lib.hid (PC.below Q.out bA)
      have B3 := Lib.hid (B1.out.trans (bA.mono B1.out.size))
      clear bA x0 x1 x2 x3 x4 x5 x6 x7 x8
      go_wp2_with fail
      go_ret
      exact ⟨by rw [HR.out]; rfl, B3.out⟩
end Go.Proofs.Ytigojdhhgdfnkaa
