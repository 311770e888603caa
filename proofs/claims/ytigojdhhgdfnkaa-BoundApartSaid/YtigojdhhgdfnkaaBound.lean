/- bound's operations: how many steps each may take. -/
import Derived.Test.YtigojdhhgdfnkaaThing
import Derived.Test.YtigojdhhgdfnkaaMay03
namespace Go.Proofs.Ytigojdhhgdfnkaa
open Go.RowKit Go.Sort
set_option linter.unusedVariables false

def eitherS (c : Cf) (n rs rl : Int) : Int := if 1 ≤ n ∧ n ≤ c.most then (if n ≤ lastC c.classes then rs else rl) else 0
def allocS (c : Cf) (n : Int) : Int := eitherS c n (9 + blk c n) (2 + 4 * allS n c.size + (2 + c.size) * manyS n c.size)
def freeS (c : Cf) (n : Int) : Int := eitherS c n (27 + blk c n + min (blk c n) c.step) (3 + 4 * allS n c.size + manyS n c.size)
def tickS (c : Cf) : Int := c.step + 10 * c.classes.length
def bytesS (n each : Int) : Int := sumW [1, wrap64 (each * n)]
def accS (c : Cf) (size n each : Int) : Int := if n < 0 ∨ size < n then 0 else eitherS c size (bytesS n each) (sumW [bytesS n each, manyS n c.size + 1])
def resizeS (c : Cf) (old size : Int) : Int := if (1 ≤ old ∧ old ≤ c.most) ∧ (1 ≤ size ∧ size ≤ c.most) then sumW [allocS c size, freeS c old, 3 * old, manyS old c.size + manyS size c.size + 4] else 0

theorem OkMay.pos {c : Cf} (h : OkMay c) : 0 < c.classes.length ∧ c.classes.length ≤ 16 := ⟨(mayB_iff.1 h.classes).1, (mayB_iff.1 h.classes).2.1⟩
theorem OkMay.most {c : Cf} (h : OkMay c) : c.most ≤ 2097152 := by
  have h1 := h.size1
  have h2 := h.size2
  have h3 := mul_range (a := c.size) (b := c.size / 8) (x := 4096) (y := 512) ⟨by omega, h2⟩ ⟨by omega, by omega⟩
  have h4 := h.most2
  omega
theorem blk_bounds {c : Cf} (h : OkMay c) {n : Int} (h1 : 1 ≤ n) (h2 : n ≤ lastC c.classes) : 8 ≤ blk c n ∧ blk c n ≤ 4096 := by
  obtain ⟨i, hi, hl⟩ := pickP_some h1 h2 h.pos.1
  have := (mayB_iff.1 h.classes).2.2 i hl
  unfold okC at this
  rw [show blk c n = c.classes.getD i 0 from by unfold blk; rw [hi]; rfl]
  have := h.size2
  omega
theorem large_bounds {c : Cf} (h : OkMay c) {n : Int} (h1 : 1 ≤ n) (h2 : n ≤ c.most) : 1 ≤ manyS n c.size ∧ manyS n c.size ≤ 512 ∧ allS n c.size = manyS n c.size + 1 := by
  have s1 := h.size1
  have s2 := h.size2
  have h4 := h.most2
  have e : manyS n c.size = (n - 1) / c.size + 1 := if_neg (by omega)
  have h5 : 0 ≤ (n - 1) / c.size := Int.ediv_nonneg (by omega) (by omega)
  have h6 : (n - 1) / c.size < c.size / 8 := Int.ediv_lt_of_lt_mul (by omega) (by rw [Int.mul_comm]; omega)
  have h7 : c.size / 8 ≤ 512 := by omega
  refine ⟨by omega, by omega, ?_⟩
  unfold allS
  rw [if_neg (by omega)]
theorem many_below {c : Cf} (h : OkMay c) {n m : Int} (h0 : 0 ≤ n) (h1 : n ≤ m) (h2 : m ≤ c.most) : 0 ≤ manyS n c.size ∧ manyS n c.size ≤ 512 := by
  by_cases e : 1 ≤ n
  · have := large_bounds h e (by omega)
    omega
  · have : manyS n c.size = 0 := if_pos (by omega)
    omega

abbrev ptr (g : Nat) : Value := .pointer (some ⟨g, 0, none⟩)
/-- a thing in memory -/
def PT (w : World) (g : Nat) (c : Cf) (n : Int) (ac : Option Addr) (cc : Nat) (ak : Option Addr) (ck : Nat) : Prop := w.heap[g]? = some (.cells #[.int .i64 c.size, .int .i64 c.pages, .slice ac c.classes.length cc, .slice ak c.keep.length ck, .int .i64 c.step, .int .i64 c.slots, .int .i64 c.gens, .int .i64 c.most, .int .i64 n] 35 (0, 0)) ∧ LV 0 w (.slice ac c.classes.length cc) c.classes ∧ LV 0 w (.slice ak c.keep.length ck) c.keep
theorem PT.below {w w' : World} {g : Nat} {c : Cf} {n : Int} {ac : Option Addr} {cc : Nat} {ak : Option Addr} {ck : Nat} (h : PT w g c n ac cc ak ck) (k : Below w.heap.size w w') : PT w' g c n ac cc ak ck :=
  ⟨below_blk k h.1 (blk_lt h.1), h.2.1.keep k, h.2.2.keep k⟩
theorem PT.th {w : World} {g : Nat} {c : Cf} {n : Int} {ac : Option Addr} {cc : Nat} {ak : Option Addr} {ck : Nat} (h : PT w g c n ac cc ak ck) : TH w (.agg #[.int .i64 c.size, .int .i64 c.pages, .slice ac c.classes.length cc, .slice ak c.keep.length ck, .int .i64 c.step, .int .i64 c.slots, .int .i64 c.gens, .int .i64 c.most, .int .i64 n]) c n := ⟨ac, cc, ak, ck, rfl, h.2.1, h.2.2⟩
theorem PT.cv {w : World} {g : Nat} {c : Cf} {n : Int} {ac : Option Addr} {cc : Nat} {ak : Option Addr} {ck : Nat} (h : PT w g c n ac cc ak ck) : CV w (.agg #[.int .i64 c.size, .int .i64 c.pages, .slice ac c.classes.length cc, .slice ak c.keep.length ck, .int .i64 c.step, .int .i64 c.slots, .int .i64 c.gens, .int .i64 c.most]) c := ⟨ac, cc, ak, ck, rfl, h.2.1, h.2.2⟩
/-- a layout in memory -/
def PC (w : World) (g : Nat) (c : Cf) (ac : Option Addr) (cc : Nat) (ak : Option Addr) (ck : Nat) : Prop := w.heap[g]? = some (.cells #[.int .i64 c.size, .int .i64 c.pages, .slice ac c.classes.length cc, .slice ak c.keep.length ck, .int .i64 c.step, .int .i64 c.slots, .int .i64 c.gens, .int .i64 c.most] 24 (0, 0))
theorem PC.below {w w' : World} {g : Nat} {c : Cf} {ac : Option Addr} {cc : Nat} {ak : Option Addr} {ck : Nat} (h : PC w g c ac cc ak ck) (k : Below w.heap.size w w') : PC w' g c ac cc ak ck := below_blk k h (blk_lt h)

theorem alloc1 (w : World) (gt : Nat) (c : Cf) (n : Int) (ac : Option Addr) (cc : Nat) (ak : Option Addr) (ck : Nat) (p : PT w gt c n ac cc ak ck) (ok : OkMay c) (g1 : 1 ≤ n) (g2 : n ≤ lastC c.classes) : Calls Try.prog 20 #[ptr gt] w fun e w' => e = .returned (.int .i64 (9 + blk c n)) ∧ Below w.heap.size w w' := by
  have hb := blk_bounds ok g1 g2
  have HB := Lib.hid (block_any w _ c n p.th g1 g2 ok.pos.1)
  have x0 := blk_cell p.1 0
  have x1 := blk_cell p.1 1
  have x2 := blk_cell p.1 2
  have x3 := blk_cell p.1 3
  have x4 := blk_cell p.1 4
  have x5 := blk_cell p.1 5
  have x6 := blk_cell p.1 6
  have x7 := blk_cell p.1 7
  have x8 := blk_cell p.1 8
  generalize blk c n = b at hb HB ⊢
  clear ok g1 g2 p
  go_enter Try.func20, Try.ntmps20
  go_wp2_with fail
  refine HB.out.mono ?_
  rintro e w1 ⟨rfl, b1⟩
  go_wp2_with fail
  refine (sum_new4 w1 2 3 4 b).mono ?_
  rintro e w2 ⟨rfl, rfl⟩
  go_wp2_with fail
  go_ret
  have hs := sumW4 2 3 4 b (by omega) (by omega) (by omega) (by omega) (by omega)
  rw [show (2 : Int) + 3 + 4 + b = 9 + b from by omega] at hs
  exact ⟨by rw [hs]; rfl, b1.alloc b1.size _⟩
set_option maxHeartbeats 2000000 in
theorem alloc2 (w : World) (gt gc : Nat) (c : Cf) (n : Int) (ac : Option Addr) (cc : Nat) (ak : Option Addr) (ck : Nat) (p : PT w gt c n ac cc ak ck) (q : PC w gc c ac cc ak ck) (ok : OkMay c) (g1 : 1 ≤ n) (g2 : n ≤ c.most) : Calls Try.prog 23 #[ptr gt, ptr gc] w fun e w' => e = .returned (.int .i64 (2 + 4 * allS n c.size + (2 + c.size) * manyS n c.size)) ∧ Below w.heap.size w w' := by
  have hm := ok.most
  have s1 := ok.size1
  have s2 := ok.size2
  obtain ⟨d1, d2, d3⟩ := large_bounds ok g1 g2
  have hr := mul_range (a := manyS n c.size) (b := 2 + c.size) (x := 512) (y := 4098) ⟨by omega, d2⟩ ⟨by omega, by omega⟩
  have P := Lib.hid p
  have Q := Lib.hid q
  have HA := Lib.hid (fun W (k : Below w.heap.size w W) => (show Calls Try.prog 24 #[.agg #[.int .i64 c.size, .int .i64 c.pages, .slice ac c.classes.length cc, .slice ak c.keep.length ck, .int .i64 c.step, .int .i64 c.slots, .int .i64 c.gens, .int .i64 c.most, .int .i64 n]] W fun e w' => e = .returned (.int .i64 (allS n c.size)) ∧ Below w.heap.size w w' from (tall_any W _ c n (P.out.th.below k) (by omega)).mono fun e w' h => ⟨h.1, k.trans (h.2.mono k.size)⟩))
  have HD := Lib.hid (fun W (k : Below w.heap.size w W) => (show Calls Try.prog 25 #[.agg #[.int .i64 c.size, .int .i64 c.pages, .slice ac c.classes.length cc, .slice ak c.keep.length ck, .int .i64 c.step, .int .i64 c.slots, .int .i64 c.gens, .int .i64 c.most, .int .i64 n]] W fun e w' => e = .returned (.int .i64 (manyS n c.size)) ∧ Below w.heap.size w w' from (tdata_any W _ c n (P.out.th.below k) (by omega)).mono fun e w' h => ⟨h.1, k.trans (h.2.mono k.size)⟩))
  have HELD := Lib.hid (fun W (k : Below w.heap.size w W) => (show Below w.heap.size w W ∧ W.cell? ⟨gt, 0, none⟩ = some (.int .i64 c.size) ∧ W.cell? ⟨gt, 1, none⟩ = some (.int .i64 c.pages) ∧ W.cell? ⟨gt, 2, none⟩ = some (.slice ac c.classes.length cc) ∧ W.cell? ⟨gt, 3, none⟩ = some (.slice ak c.keep.length ck) ∧ W.cell? ⟨gt, 4, none⟩ = some (.int .i64 c.step) ∧ W.cell? ⟨gt, 5, none⟩ = some (.int .i64 c.slots) ∧ W.cell? ⟨gt, 6, none⟩ = some (.int .i64 c.gens) ∧ W.cell? ⟨gt, 7, none⟩ = some (.int .i64 c.most) ∧ W.cell? ⟨gt, 8, none⟩ = some (.int .i64 n) ∧ W.cell? ⟨gc, 0, none⟩ = some (.int .i64 c.size) from ⟨k, (blk_cell (below_blk k P.out.1 (blk_lt P.out.1)) 0).trans rfl, (blk_cell (below_blk k P.out.1 (blk_lt P.out.1)) 1).trans rfl, (blk_cell (below_blk k P.out.1 (blk_lt P.out.1)) 2).trans rfl, (blk_cell (below_blk k P.out.1 (blk_lt P.out.1)) 3).trans rfl, (blk_cell (below_blk k P.out.1 (blk_lt P.out.1)) 4).trans rfl, (blk_cell (below_blk k P.out.1 (blk_lt P.out.1)) 5).trans rfl, (blk_cell (below_blk k P.out.1 (blk_lt P.out.1)) 6).trans rfl, (blk_cell (below_blk k P.out.1 (blk_lt P.out.1)) 7).trans rfl, (blk_cell (below_blk k P.out.1 (blk_lt P.out.1)) 8).trans rfl, (blk_cell (PC.below Q.out k) 0).trans rfl⟩))
  generalize allS n c.size = al at d3 HA ⊢
  generalize manyS n c.size = md at d1 d2 d3 hr HD ⊢
  have e1 : Hid (IntKind.i64.wrap (md * IntKind.i64.wrap (2 + c.size)) = md * (2 + c.size)) := Lib.hid (by rw [IntWalk.i64_in (2 + c.size) (by omega)]; exact IntWalk.i64_in _ (by omega))
  have e3 : Hid (IntKind.i64.wrap (al * 4) = al * 4) := Lib.hid (IntWalk.i64_in _ (by omega))
  have e2 : 2 + al * 4 + md * (2 + c.size) = 2 + 4 * al + (2 + c.size) * md := by rw [Int.mul_comm al 4, Int.mul_comm md]
  have HE := Lib.hid e2
  have hsum := Lib.hid (sumW3 2 (al * 4) (md * (2 + c.size)) (by omega) (by omega) (by omega) (by omega))
  have hal : 0 ≤ al ∧ al ≤ 513 := by omega
  clear e2 d3 p q ok g1 g2 hm
  go_enter Try.func23, Try.ntmps23
  go_wp2_with fail
  go_region_held3 (fun W => Below w.heap.size w W ∧ W.cell? ⟨gt, 0, none⟩ = some (.int .i64 c.size) ∧ W.cell? ⟨gt, 1, none⟩ = some (.int .i64 c.pages) ∧ W.cell? ⟨gt, 2, none⟩ = some (.slice ac c.classes.length cc) ∧ W.cell? ⟨gt, 3, none⟩ = some (.slice ak c.keep.length ck) ∧ W.cell? ⟨gt, 4, none⟩ = some (.int .i64 c.step) ∧ W.cell? ⟨gt, 5, none⟩ = some (.int .i64 c.slots) ∧ W.cell? ⟨gt, 6, none⟩ = some (.int .i64 c.gens) ∧ W.cell? ⟨gt, 7, none⟩ = some (.int .i64 c.most) ∧ W.cell? ⟨gt, 8, none⟩ = some (.int .i64 n) ∧ W.cell? ⟨gc, 0, none⟩ = some (.int .i64 c.size))
    (first
      | exact HELD.out _ (Below.refl _ _)
      | exact HELD.out _ (below_drew (Below.refl _ _))
      | exact HELD.out _ (bA)
      | exact HELD.out _ (bA.alloc bA.size _)
      | exact HELD.out _ (bD)
      | exact HELD.out _ (bD.alloc bD.size _))
    (first
      | (go_at_call 24; refine (HA.out _ (by first | assumption | exact below_drew (Below.refl _ _) | exact Below.refl _ _)).mono ?_; rintro e wA ⟨rfl, bA⟩)
      | (go_at_call 25; refine (HD.out _ (by first | assumption | exact below_drew (Below.refl _ _) | exact Below.refl _ _)).mono ?_; rintro e wD ⟨rfl, bD⟩)
      | (go_at_call 21; refine (sum_new3 _ _ _ _).mono ?_; rintro e wS ⟨rfl, rfl⟩))
  all_goals
    rename_i hH
    go_wp2_with fail
    go_ret
    exact ⟨by first | rw [e1.out, e3.out, hsum.out, HE.out]; rfl | rw [hsum.out, HE.out]; rfl, hH.1⟩
set_option maxHeartbeats 2000000 in
theorem free1 (w : World) (gt gc : Nat) (c : Cf) (n : Int) (ac : Option Addr) (cc : Nat) (ak : Option Addr) (ck : Nat) (p : PT w gt c n ac cc ak ck) (q : PC w gc c ac cc ak ck) (ok : OkMay c) (g1 : 1 ≤ n) (g2 : n ≤ lastC c.classes) : Calls Try.prog 31 #[ptr gt, ptr gc] w fun e w' => e = .returned (.int .i64 (27 + blk c n + min (blk c n) c.step)) ∧ Below w.heap.size w w' := by
  have hb := blk_bounds ok g1 g2
  have hst := ok.step
  have hpos := ok.pos.1
  have P := Lib.hid p
  have Q := Lib.hid q
  have HA := Lib.hid (fun W (k : Below w.heap.size w W) => (show Calls Try.prog 22 #[.agg #[.int .i64 c.size, .int .i64 c.pages, .slice ac c.classes.length cc, .slice ak c.keep.length ck, .int .i64 c.step, .int .i64 c.slots, .int .i64 c.gens, .int .i64 c.most, .int .i64 n]] W fun e w' => e = .returned (.int .i64 (blk c n)) ∧ Below w.heap.size w w' from (block_any W _ c n (P.out.th.below k) g1 g2 hpos).mono fun e w' h => ⟨h.1, k.trans (h.2.mono k.size)⟩))
  have HELD := Lib.hid (fun W (k : Below w.heap.size w W) => (show Below w.heap.size w W ∧ W.cell? ⟨gt, 0, none⟩ = some (.int .i64 c.size) ∧ W.cell? ⟨gt, 1, none⟩ = some (.int .i64 c.pages) ∧ W.cell? ⟨gt, 2, none⟩ = some (.slice ac c.classes.length cc) ∧ W.cell? ⟨gt, 3, none⟩ = some (.slice ak c.keep.length ck) ∧ W.cell? ⟨gt, 4, none⟩ = some (.int .i64 c.step) ∧ W.cell? ⟨gt, 5, none⟩ = some (.int .i64 c.slots) ∧ W.cell? ⟨gt, 6, none⟩ = some (.int .i64 c.gens) ∧ W.cell? ⟨gt, 7, none⟩ = some (.int .i64 c.most) ∧ W.cell? ⟨gt, 8, none⟩ = some (.int .i64 n) ∧ W.cell? ⟨gc, 4, none⟩ = some (.int .i64 c.step) from ⟨k, (blk_cell (below_blk k P.out.1 (blk_lt P.out.1)) 0).trans rfl, (blk_cell (below_blk k P.out.1 (blk_lt P.out.1)) 1).trans rfl, (blk_cell (below_blk k P.out.1 (blk_lt P.out.1)) 2).trans rfl, (blk_cell (below_blk k P.out.1 (blk_lt P.out.1)) 3).trans rfl, (blk_cell (below_blk k P.out.1 (blk_lt P.out.1)) 4).trans rfl, (blk_cell (below_blk k P.out.1 (blk_lt P.out.1)) 5).trans rfl, (blk_cell (below_blk k P.out.1 (blk_lt P.out.1)) 6).trans rfl, (blk_cell (below_blk k P.out.1 (blk_lt P.out.1)) 7).trans rfl, (blk_cell (below_blk k P.out.1 (blk_lt P.out.1)) 8).trans rfl, (blk_cell (PC.below Q.out k) 4).trans rfl⟩))
  generalize blk c n = b at hb HA ⊢
  have hmin : 0 ≤ min b c.step ∧ min b c.step ≤ 4096 := by omega
  clear p q ok g1 g2
  by_cases hc : c.step < b
  · have hm2 : Hid (min b c.step = c.step) := Lib.hid (by omega)
    have he : Hid (1 + 2 + 12 + 12 + b + c.step = 27 + b + c.step) := Lib.hid (by omega)
    have hsum := Lib.hid (sumW6 1 2 12 12 b c.step (by omega) (by omega) (by omega) (by omega) (by omega) (by omega) (by omega))
    go_enter Try.func31, Try.ntmps31
    go_wp2_with fail
    go_region_held3 (fun W => Below w.heap.size w W ∧ W.cell? ⟨gt, 0, none⟩ = some (.int .i64 c.size) ∧ W.cell? ⟨gt, 1, none⟩ = some (.int .i64 c.pages) ∧ W.cell? ⟨gt, 2, none⟩ = some (.slice ac c.classes.length cc) ∧ W.cell? ⟨gt, 3, none⟩ = some (.slice ak c.keep.length ck) ∧ W.cell? ⟨gt, 4, none⟩ = some (.int .i64 c.step) ∧ W.cell? ⟨gt, 5, none⟩ = some (.int .i64 c.slots) ∧ W.cell? ⟨gt, 6, none⟩ = some (.int .i64 c.gens) ∧ W.cell? ⟨gt, 7, none⟩ = some (.int .i64 c.most) ∧ W.cell? ⟨gt, 8, none⟩ = some (.int .i64 n) ∧ W.cell? ⟨gc, 4, none⟩ = some (.int .i64 c.step))
      (first
        | exact HELD.out _ (Below.refl _ _)
        | exact HELD.out _ (below_drew (Below.refl _ _))
        | exact HELD.out _ (bA)
        | exact HELD.out _ (bA.alloc bA.size _))
      (first
        | (go_at_call 22; refine (HA.out _ (by first | assumption | exact below_drew (Below.refl _ _) | exact Below.refl _ _)).mono ?_; rintro e wA ⟨rfl, bA⟩)
        | (go_at_call 21; refine (sum_new6 _ _ _ _ _ _ _).mono ?_; rintro e wS ⟨rfl, rfl⟩))
    all_goals
      rename_i hH
      go_wp2_with fail
      go_ret
      exact ⟨by rw [hm2.out, hsum.out, he.out]; rfl, hH.1⟩
  · have hm2 : Hid (min b c.step = b) := Lib.hid (by omega)
    have he : Hid (1 + 2 + 12 + 12 + b + b = 27 + b + b) := Lib.hid (by omega)
    have hsum := Lib.hid (sumW6 1 2 12 12 b b (by omega) (by omega) (by omega) (by omega) (by omega) (by omega) (by omega))
    go_enter Try.func31, Try.ntmps31
    go_wp2_with fail
    go_region_held3 (fun W => Below w.heap.size w W ∧ W.cell? ⟨gt, 0, none⟩ = some (.int .i64 c.size) ∧ W.cell? ⟨gt, 1, none⟩ = some (.int .i64 c.pages) ∧ W.cell? ⟨gt, 2, none⟩ = some (.slice ac c.classes.length cc) ∧ W.cell? ⟨gt, 3, none⟩ = some (.slice ak c.keep.length ck) ∧ W.cell? ⟨gt, 4, none⟩ = some (.int .i64 c.step) ∧ W.cell? ⟨gt, 5, none⟩ = some (.int .i64 c.slots) ∧ W.cell? ⟨gt, 6, none⟩ = some (.int .i64 c.gens) ∧ W.cell? ⟨gt, 7, none⟩ = some (.int .i64 c.most) ∧ W.cell? ⟨gt, 8, none⟩ = some (.int .i64 n) ∧ W.cell? ⟨gc, 4, none⟩ = some (.int .i64 c.step))
      (first
        | exact HELD.out _ (Below.refl _ _)
        | exact HELD.out _ (below_drew (Below.refl _ _))
        | exact HELD.out _ (bA)
        | exact HELD.out _ (bA.alloc bA.size _))
      (first
        | (go_at_call 22; refine (HA.out _ (by first | assumption | exact below_drew (Below.refl _ _) | exact Below.refl _ _)).mono ?_; rintro e wA ⟨rfl, bA⟩)
        | (go_at_call 21; refine (sum_new6 _ _ _ _ _ _ _).mono ?_; rintro e wS ⟨rfl, rfl⟩))
    all_goals
      rename_i hH
      go_wp2_with fail
      go_ret
      exact ⟨by rw [hm2.out, hsum.out, he.out]; rfl, hH.1⟩
set_option maxHeartbeats 2000000 in
theorem free2 (w : World) (gt : Nat) (c : Cf) (n : Int) (ac : Option Addr) (cc : Nat) (ak : Option Addr) (ck : Nat) (p : PT w gt c n ac cc ak ck) (ok : OkMay c) (g1 : 1 ≤ n) (g2 : n ≤ c.most) : Calls Try.prog 32 #[ptr gt] w fun e w' => e = .returned (.int .i64 (3 + 4 * allS n c.size + manyS n c.size)) ∧ Below w.heap.size w w' := by
  have hm := ok.most
  obtain ⟨d1, d2, d3⟩ := large_bounds ok g1 g2
  have P := Lib.hid p
  have HA := Lib.hid (fun W (k : Below w.heap.size w W) => (show Calls Try.prog 24 #[.agg #[.int .i64 c.size, .int .i64 c.pages, .slice ac c.classes.length cc, .slice ak c.keep.length ck, .int .i64 c.step, .int .i64 c.slots, .int .i64 c.gens, .int .i64 c.most, .int .i64 n]] W fun e w' => e = .returned (.int .i64 (allS n c.size)) ∧ Below w.heap.size w w' from (tall_any W _ c n (P.out.th.below k) (by omega)).mono fun e w' h => ⟨h.1, k.trans (h.2.mono k.size)⟩))
  have HD := Lib.hid (fun W (k : Below w.heap.size w W) => (show Calls Try.prog 25 #[.agg #[.int .i64 c.size, .int .i64 c.pages, .slice ac c.classes.length cc, .slice ak c.keep.length ck, .int .i64 c.step, .int .i64 c.slots, .int .i64 c.gens, .int .i64 c.most, .int .i64 n]] W fun e w' => e = .returned (.int .i64 (manyS n c.size)) ∧ Below w.heap.size w w' from (tdata_any W _ c n (P.out.th.below k) (by omega)).mono fun e w' h => ⟨h.1, k.trans (h.2.mono k.size)⟩))
  have HELD := Lib.hid (fun W (k : Below w.heap.size w W) => (show Below w.heap.size w W ∧ W.cell? ⟨gt, 0, none⟩ = some (.int .i64 c.size) ∧ W.cell? ⟨gt, 1, none⟩ = some (.int .i64 c.pages) ∧ W.cell? ⟨gt, 2, none⟩ = some (.slice ac c.classes.length cc) ∧ W.cell? ⟨gt, 3, none⟩ = some (.slice ak c.keep.length ck) ∧ W.cell? ⟨gt, 4, none⟩ = some (.int .i64 c.step) ∧ W.cell? ⟨gt, 5, none⟩ = some (.int .i64 c.slots) ∧ W.cell? ⟨gt, 6, none⟩ = some (.int .i64 c.gens) ∧ W.cell? ⟨gt, 7, none⟩ = some (.int .i64 c.most) ∧ W.cell? ⟨gt, 8, none⟩ = some (.int .i64 n) from ⟨k, (blk_cell (below_blk k P.out.1 (blk_lt P.out.1)) 0).trans rfl, (blk_cell (below_blk k P.out.1 (blk_lt P.out.1)) 1).trans rfl, (blk_cell (below_blk k P.out.1 (blk_lt P.out.1)) 2).trans rfl, (blk_cell (below_blk k P.out.1 (blk_lt P.out.1)) 3).trans rfl, (blk_cell (below_blk k P.out.1 (blk_lt P.out.1)) 4).trans rfl, (blk_cell (below_blk k P.out.1 (blk_lt P.out.1)) 5).trans rfl, (blk_cell (below_blk k P.out.1 (blk_lt P.out.1)) 6).trans rfl, (blk_cell (below_blk k P.out.1 (blk_lt P.out.1)) 7).trans rfl, (blk_cell (below_blk k P.out.1 (blk_lt P.out.1)) 8).trans rfl⟩))
  generalize allS n c.size = al at d3 HA ⊢
  generalize manyS n c.size = md at d1 d2 d3 HD ⊢
  have e3 : Hid (IntKind.i64.wrap (al * 4) = al * 4) := Lib.hid (IntWalk.i64_in _ (by omega))
  have e4 : Hid (IntKind.i64.wrap md = md) := Lib.hid (IntWalk.i64_in _ (by omega))
  have he : Hid (1 + 2 + al * 4 + md = 3 + 4 * al + md) := Lib.hid (by omega)
  have hsum := Lib.hid (sumW4 1 2 (al * 4) md (by omega) (by omega) (by omega) (by omega) (by omega))
  have hal : 0 ≤ al ∧ al ≤ 513 := by omega
  clear d3 p ok g1 g2 hm
  go_enter Try.func32, Try.ntmps32
  go_wp2_with fail
  go_region_held3 (fun W => Below w.heap.size w W ∧ W.cell? ⟨gt, 0, none⟩ = some (.int .i64 c.size) ∧ W.cell? ⟨gt, 1, none⟩ = some (.int .i64 c.pages) ∧ W.cell? ⟨gt, 2, none⟩ = some (.slice ac c.classes.length cc) ∧ W.cell? ⟨gt, 3, none⟩ = some (.slice ak c.keep.length ck) ∧ W.cell? ⟨gt, 4, none⟩ = some (.int .i64 c.step) ∧ W.cell? ⟨gt, 5, none⟩ = some (.int .i64 c.slots) ∧ W.cell? ⟨gt, 6, none⟩ = some (.int .i64 c.gens) ∧ W.cell? ⟨gt, 7, none⟩ = some (.int .i64 c.most) ∧ W.cell? ⟨gt, 8, none⟩ = some (.int .i64 n))
    (first
      | exact HELD.out _ (Below.refl _ _)
      | exact HELD.out _ (below_drew (Below.refl _ _))
      | exact HELD.out _ (bA)
      | exact HELD.out _ (bA.alloc bA.size _)
      | exact HELD.out _ (bD)
      | exact HELD.out _ (bD.alloc bD.size _))
    (first
      | (go_at_call 24; refine (HA.out _ (by first | assumption | exact below_drew (Below.refl _ _) | exact Below.refl _ _)).mono ?_; rintro e wA ⟨rfl, bA⟩)
      | (go_at_call 25; refine (HD.out _ (by first | assumption | exact below_drew (Below.refl _ _) | exact Below.refl _ _)).mono ?_; rintro e wD ⟨rfl, bD⟩)
      | (go_at_call 21; refine (sum_new4 _ _ _ _ _).mono ?_; rintro e wS ⟨rfl, rfl⟩))
  all_goals
    rename_i hH
    go_wp2_with fail
    go_ret
    exact ⟨by rw [e3.out, e4.out, hsum.out, he.out]; rfl, hH.1⟩
end Go.Proofs.Ytigojdhhgdfnkaa
