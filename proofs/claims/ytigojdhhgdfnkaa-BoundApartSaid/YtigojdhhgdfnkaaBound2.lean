/- bound's operations: how many steps each may take. -/
import Derived.Test.YtigojdhhgdfnkaaBound
namespace Go.Proofs.Ytigojdhhgdfnkaa
open Go.RowKit Go.Sort
set_option linter.unusedVariables false

theorem acc1 (w : World) (gb : Nat) (x : Int) (h : w.heap[gb]? = some (.cells #[.int .i64 x] 3 (0, 0))) : Calls Try.prog 42 #[ptr gb] w fun e w' => e = .returned (.int .i64 x) ∧ Below w.heap.size w w' := by
  have c0 := blk_cell h 0
  clear h
  go_enter Try.func42, Try.ntmps42
  go_wp2_with fail
  go_ret
  exact ⟨rfl, Below.refl _ _⟩
set_option maxHeartbeats 2000000 in
theorem acc2 (w : World) (gb gn gc : Nat) (x : Int) (c : Cf) (n : Int) (ac : Option Addr) (cc : Nat) (ak : Option Addr) (ck : Nat) (hb : w.heap[gb]? = some (.cells #[.int .i64 x] 3 (0, 0))) (hn : w.heap[gn]? = some (.cells #[.int .i64 n] 3 (0, 0))) (q : PC w gc c ac cc ak ck) (hm : 0 ≤ manyS n c.size ∧ manyS n c.size ≤ 512) (hn2 : n ≤ 9223372036854775807) :
    Calls Try.prog 43 #[ptr gb, ptr gn, ptr gc] w fun e w' => e = .returned (.int .i64 (sumW [x, manyS n c.size + 1])) ∧ Below w.heap.size w w' := by
  have HB := Lib.hid hb
  have HN := Lib.hid hn
  have Q := Lib.hid q
  have HD := Lib.hid (fun W (k : Below w.heap.size w W) => (show Calls Try.prog 38 #[.int .i64 n, .int .i64 c.size] W fun e w' => e = .returned (.int .i64 (manyS n c.size)) ∧ Below w.heap.size w w' from (data_any W n c.size hn2).mono fun e w' h => ⟨h.1, by rw [← h.2]; exact k⟩))
  have HELD := Lib.hid (fun W (k : Below w.heap.size w W) => (show Below w.heap.size w W ∧ W.cell? ⟨gb, 0, none⟩ = some (.int .i64 x) ∧ W.cell? ⟨gn, 0, none⟩ = some (.int .i64 n) ∧ W.cell? ⟨gc, 0, none⟩ = some (.int .i64 c.size) from ⟨k, (blk_cell (below_blk k HB.out (blk_lt HB.out)) 0).trans rfl, (blk_cell (below_blk k HN.out (blk_lt HN.out)) 0).trans rfl, (blk_cell (PC.below Q.out k) 0).trans rfl⟩))
  generalize manyS n c.size = md at hm HD ⊢
  have e1 : Hid (IntKind.i64.wrap (md + 1) = md + 1) := Lib.hid (IntWalk.i64_in _ (by omega))
  clear hb hn q
  go_enter Try.func43, Try.ntmps43
  go_wp2_with fail
  go_region_held3 (fun W => Below w.heap.size w W ∧ W.cell? ⟨gb, 0, none⟩ = some (.int .i64 x) ∧ W.cell? ⟨gn, 0, none⟩ = some (.int .i64 n) ∧ W.cell? ⟨gc, 0, none⟩ = some (.int .i64 c.size))
    (first
      | exact HELD.out _ (Below.refl _ _)
      | exact HELD.out _ (below_drew (Below.refl _ _))
      | exact HELD.out _ (bD)
      | exact HELD.out _ (bD.alloc bD.size _))
    (first
      | (go_at_call 38; refine (HD.out _ (by first | assumption | exact below_drew (Below.refl _ _) | exact Below.refl _ _)).mono ?_; rintro e wD ⟨rfl, bD⟩)
      | (go_at_call 21; refine (sum_new2 _ _ _).mono ?_; rintro e wS ⟨rfl, rfl⟩))
  all_goals
    rename_i hH
    go_wp2_with fail
    go_ret
    refine ⟨?_, hH.1⟩
    first | rfl | (rw [e1.out]; rfl) | (simp only [e1.out]; rfl)

theorem either12 (w : World) (v : Value) (c : Cf) (n : Int) (h : TH w v c n) (p0 r0 r1 : Value) (rs rl : Int)
    (hS : 1 ≤ n → n ≤ c.most → n ≤ lastC c.classes → ∀ W, Below w.heap.size w W → Calls Try.prog 20 #[p0] W fun e w' => e = .returned (.int .i64 rs) ∧ Below W.heap.size W w')
    (hL : 1 ≤ n → n ≤ c.most → lastC c.classes < n → ∀ W, Below w.heap.size w W → Calls Try.prog 23 #[r0, r1] W fun e w' => e = .returned (.int .i64 rl) ∧ Below W.heap.size W w') :
    Calls Try.prog 19 #[v, .func (.func 20) #[] #[p0], .func (.func 23) #[] #[r0, r1]] w fun e w' => e = .returned (.int .i64 (eitherS c n rs rl)) ∧ Below w.heap.size w w' := by
  have H := Lib.hid h
  obtain ⟨ac, cc, ak, ck, rfl, h1, h2⟩ := h
  have hmf : ∀ (fn : Fn) (first cap : Array Value) (w : World), (Instr.makeFunc fn first cap).run Try.prog w = .ok (.func fn first cap) w := fun _ _ _ _ => rfl
  have HB := Lib.hid ((Below.refl w.heap.size w).alloc (Nat.le_refl _) (.cells #[.int .i64 c.size, .int .i64 c.pages, .slice ac c.classes.length cc, .slice ak c.keep.length ck, .int .i64 c.step, .int .i64 c.slots, .int .i64 c.gens, .int .i64 c.most, .int .i64 n] 35))
  have X0 := Lib.hid (blk_new w (.cells #[.int .i64 c.size, .int .i64 c.pages, .slice ac c.classes.length cc, .slice ak c.keep.length ck, .int .i64 c.step, .int .i64 c.slots, .int .i64 c.gens, .int .i64 c.most, .int .i64 n] 35))
  clear h1 h2
  by_cases g1 : 1 ≤ n ∧ n ≤ c.most
  · have E : ∀ w1, Below (w.alloc (.cells #[.int .i64 c.size, .int .i64 c.pages, .slice ac c.classes.length cc, .slice ak c.keep.length ck, .int .i64 c.step, .int .i64 c.slots, .int .i64 c.gens, .int .i64 c.most, .int .i64 n] 35)).heap.size (w.alloc (.cells #[.int .i64 c.size, .int .i64 c.pages, .slice ac c.classes.length cc, .slice ak c.keep.length ck, .int .i64 c.step, .int .i64 c.slots, .int .i64 c.gens, .int .i64 c.most, .int .i64 n] 35)) w1 → Below w.heap.size w w1 ∧ w1.heap[w.heap.size]? = some (.cells #[.int .i64 c.size, .int .i64 c.pages, .slice ac c.classes.length cc, .slice ak c.keep.length ck, .int .i64 c.step, .int .i64 c.slots, .int .i64 c.gens, .int .i64 c.most, .int .i64 n] 35 (0, 0)) := fun w1 b => ⟨HB.out.trans (b.mono HB.out.size), below_blk b X0.out (by simp)⟩
    have HE := Lib.hid E
    have dt := decide_eq_true g1
    by_cases g2 : n ≤ lastC c.classes
    · rw [show eitherS c n rs rl = rs from by unfold eitherS; rw [if_pos g1, if_pos g2]]
      have HS := Lib.hid (hS g1.1 g1.2 g2)
      have ds := decide_eq_true g2
      clear hS hL E g1 g2
      go_enter Try.func19, Try.ntmps19
      go_wp2_with fail
      refine (is_any _ _ c n (H.out.below HB.out)).mono ?_
      rw [dt]
      rintro e w1 ⟨rfl, b1⟩
      have e1 := HE.out w1 b1
      have B1 := Lib.hid e1.1
      have X1 := Lib.hid e1.2
      have x0 := blk_cell X1.out 0
      have x1 := blk_cell X1.out 1
      have x2 := blk_cell X1.out 2
      have x3 := blk_cell X1.out 3
      have x4 := blk_cell X1.out 4
      have x5 := blk_cell X1.out 5
      have x6 := blk_cell X1.out 6
      have x7 := blk_cell X1.out 7
      have x8 := blk_cell X1.out 8
      clear b1 e1
      go_wp2_with fail
      refine (tsmall_any _ _ c n (H.out.below B1.out)).mono ?_
      rw [ds]
      rintro e w2 ⟨rfl, b2⟩
      have B2 := Lib.hid (B1.out.trans (b2.mono B1.out.size))
      clear b2 x0 x1 x2 x3 x4 x5 x6 x7 x8
      go_wp2_with fail
      refine (HS.out w2 B2.out).mono ?_
      rintro e w3 ⟨rfl, b3⟩
      have B3 := Lib.hid (B2.out.trans (b3.mono B2.out.size))
      clear b3
      go_wp2_with fail
      go_ret
      exact ⟨rfl, B3.out⟩
    · rw [show eitherS c n rs rl = rl from by unfold eitherS; rw [if_pos g1, if_neg g2]]
      have HS := Lib.hid (hL g1.1 g1.2 (by omega))
      have ds := decide_eq_false g2
      clear hS hL E g1 g2
      go_enter Try.func19, Try.ntmps19
      go_wp2_with fail
      refine (is_any _ _ c n (H.out.below HB.out)).mono ?_
      rw [dt]
      rintro e w1 ⟨rfl, b1⟩
      have e1 := HE.out w1 b1
      have B1 := Lib.hid e1.1
      have X1 := Lib.hid e1.2
      have x0 := blk_cell X1.out 0
      have x1 := blk_cell X1.out 1
      have x2 := blk_cell X1.out 2
      have x3 := blk_cell X1.out 3
      have x4 := blk_cell X1.out 4
      have x5 := blk_cell X1.out 5
      have x6 := blk_cell X1.out 6
      have x7 := blk_cell X1.out 7
      have x8 := blk_cell X1.out 8
      clear b1 e1
      go_wp2_with fail
      refine (tsmall_any _ _ c n (H.out.below B1.out)).mono ?_
      rw [ds]
      rintro e w2 ⟨rfl, b2⟩
      have B2 := Lib.hid (B1.out.trans (b2.mono B1.out.size))
      clear b2 x0 x1 x2 x3 x4 x5 x6 x7 x8
      go_wp2_with fail
      refine (HS.out w2 B2.out).mono ?_
      rintro e w3 ⟨rfl, b3⟩
      have B3 := Lib.hid (B2.out.trans (b3.mono B2.out.size))
      clear b3
      go_wp2_with fail
      go_ret
      exact ⟨rfl, B3.out⟩
  · rw [show eitherS c n rs rl = 0 from if_neg g1]
    have dt := decide_eq_false g1
    clear hS hL g1
    go_enter Try.func19, Try.ntmps19
    go_wp2_with fail
    refine (is_any _ _ c n (H.out.below HB.out)).mono ?_
    rw [dt]
    rintro e w1 ⟨rfl, b1⟩
    have B1 := Lib.hid (HB.out.trans (b1.mono HB.out.size))
    clear b1
    go_wp2_with fail
    go_ret
    exact ⟨rfl, B1.out⟩
theorem either21 (w : World) (v : Value) (c : Cf) (n : Int) (h : TH w v c n) (p0 p1 r0 : Value) (rs rl : Int)
    (hS : 1 ≤ n → n ≤ c.most → n ≤ lastC c.classes → ∀ W, Below w.heap.size w W → Calls Try.prog 31 #[p0, p1] W fun e w' => e = .returned (.int .i64 rs) ∧ Below W.heap.size W w')
    (hL : 1 ≤ n → n ≤ c.most → lastC c.classes < n → ∀ W, Below w.heap.size w W → Calls Try.prog 32 #[r0] W fun e w' => e = .returned (.int .i64 rl) ∧ Below W.heap.size W w') :
    Calls Try.prog 19 #[v, .func (.func 31) #[] #[p0, p1], .func (.func 32) #[] #[r0]] w fun e w' => e = .returned (.int .i64 (eitherS c n rs rl)) ∧ Below w.heap.size w w' := by
  have H := Lib.hid h
  obtain ⟨ac, cc, ak, ck, rfl, h1, h2⟩ := h
  have hmf : ∀ (fn : Fn) (first cap : Array Value) (w : World), (Instr.makeFunc fn first cap).run Try.prog w = .ok (.func fn first cap) w := fun _ _ _ _ => rfl
  have HB := Lib.hid ((Below.refl w.heap.size w).alloc (Nat.le_refl _) (.cells #[.int .i64 c.size, .int .i64 c.pages, .slice ac c.classes.length cc, .slice ak c.keep.length ck, .int .i64 c.step, .int .i64 c.slots, .int .i64 c.gens, .int .i64 c.most, .int .i64 n] 35))
  have X0 := Lib.hid (blk_new w (.cells #[.int .i64 c.size, .int .i64 c.pages, .slice ac c.classes.length cc, .slice ak c.keep.length ck, .int .i64 c.step, .int .i64 c.slots, .int .i64 c.gens, .int .i64 c.most, .int .i64 n] 35))
  clear h1 h2
  by_cases g1 : 1 ≤ n ∧ n ≤ c.most
  · have E : ∀ w1, Below (w.alloc (.cells #[.int .i64 c.size, .int .i64 c.pages, .slice ac c.classes.length cc, .slice ak c.keep.length ck, .int .i64 c.step, .int .i64 c.slots, .int .i64 c.gens, .int .i64 c.most, .int .i64 n] 35)).heap.size (w.alloc (.cells #[.int .i64 c.size, .int .i64 c.pages, .slice ac c.classes.length cc, .slice ak c.keep.length ck, .int .i64 c.step, .int .i64 c.slots, .int .i64 c.gens, .int .i64 c.most, .int .i64 n] 35)) w1 → Below w.heap.size w w1 ∧ w1.heap[w.heap.size]? = some (.cells #[.int .i64 c.size, .int .i64 c.pages, .slice ac c.classes.length cc, .slice ak c.keep.length ck, .int .i64 c.step, .int .i64 c.slots, .int .i64 c.gens, .int .i64 c.most, .int .i64 n] 35 (0, 0)) := fun w1 b => ⟨HB.out.trans (b.mono HB.out.size), below_blk b X0.out (by simp)⟩
    have HE := Lib.hid E
    have dt := decide_eq_true g1
    by_cases g2 : n ≤ lastC c.classes
    · rw [show eitherS c n rs rl = rs from by unfold eitherS; rw [if_pos g1, if_pos g2]]
      have HS := Lib.hid (hS g1.1 g1.2 g2)
      have ds := decide_eq_true g2
      clear hS hL E g1 g2
      go_enter Try.func19, Try.ntmps19
      go_wp2_with fail
      refine (is_any _ _ c n (H.out.below HB.out)).mono ?_
      rw [dt]
      rintro e w1 ⟨rfl, b1⟩
      have e1 := HE.out w1 b1
      have B1 := Lib.hid e1.1
      have X1 := Lib.hid e1.2
      have x0 := blk_cell X1.out 0
      have x1 := blk_cell X1.out 1
      have x2 := blk_cell X1.out 2
      have x3 := blk_cell X1.out 3
      have x4 := blk_cell X1.out 4
      have x5 := blk_cell X1.out 5
      have x6 := blk_cell X1.out 6
      have x7 := blk_cell X1.out 7
      have x8 := blk_cell X1.out 8
      clear b1 e1
      go_wp2_with fail
      refine (tsmall_any _ _ c n (H.out.below B1.out)).mono ?_
      rw [ds]
      rintro e w2 ⟨rfl, b2⟩
      have B2 := Lib.hid (B1.out.trans (b2.mono B1.out.size))
      clear b2 x0 x1 x2 x3 x4 x5 x6 x7 x8
      go_wp2_with fail
      refine (HS.out w2 B2.out).mono ?_
      rintro e w3 ⟨rfl, b3⟩
      have B3 := Lib.hid (B2.out.trans (b3.mono B2.out.size))
      clear b3
      go_wp2_with fail
      go_ret
      exact ⟨rfl, B3.out⟩
    · rw [show eitherS c n rs rl = rl from by unfold eitherS; rw [if_pos g1, if_neg g2]]
      have HS := Lib.hid (hL g1.1 g1.2 (by omega))
      have ds := decide_eq_false g2
      clear hS hL E g1 g2
      go_enter Try.func19, Try.ntmps19
      go_wp2_with fail
      refine (is_any _ _ c n (H.out.below HB.out)).mono ?_
      rw [dt]
      rintro e w1 ⟨rfl, b1⟩
      have e1 := HE.out w1 b1
      have B1 := Lib.hid e1.1
      have X1 := Lib.hid e1.2
      have x0 := blk_cell X1.out 0
      have x1 := blk_cell X1.out 1
      have x2 := blk_cell X1.out 2
      have x3 := blk_cell X1.out 3
      have x4 := blk_cell X1.out 4
      have x5 := blk_cell X1.out 5
      have x6 := blk_cell X1.out 6
      have x7 := blk_cell X1.out 7
      have x8 := blk_cell X1.out 8
      clear b1 e1
      go_wp2_with fail
      refine (tsmall_any _ _ c n (H.out.below B1.out)).mono ?_
      rw [ds]
      rintro e w2 ⟨rfl, b2⟩
      have B2 := Lib.hid (B1.out.trans (b2.mono B1.out.size))
      clear b2 x0 x1 x2 x3 x4 x5 x6 x7 x8
      go_wp2_with fail
      refine (HS.out w2 B2.out).mono ?_
      rintro e w3 ⟨rfl, b3⟩
      have B3 := Lib.hid (B2.out.trans (b3.mono B2.out.size))
      clear b3
      go_wp2_with fail
      go_ret
      exact ⟨rfl, B3.out⟩
  · rw [show eitherS c n rs rl = 0 from if_neg g1]
    have dt := decide_eq_false g1
    clear hS hL g1
    go_enter Try.func19, Try.ntmps19
    go_wp2_with fail
    refine (is_any _ _ c n (H.out.below HB.out)).mono ?_
    rw [dt]
    rintro e w1 ⟨rfl, b1⟩
    have B1 := Lib.hid (HB.out.trans (b1.mono HB.out.size))
    clear b1
    go_wp2_with fail
    go_ret
    exact ⟨rfl, B1.out⟩
theorem either13 (w : World) (v : Value) (c : Cf) (n : Int) (h : TH w v c n) (p0 r0 r1 r2 : Value) (rs rl : Int)
    (hS : 1 ≤ n → n ≤ c.most → n ≤ lastC c.classes → ∀ W, Below w.heap.size w W → Calls Try.prog 42 #[p0] W fun e w' => e = .returned (.int .i64 rs) ∧ Below W.heap.size W w')
    (hL : 1 ≤ n → n ≤ c.most → lastC c.classes < n → ∀ W, Below w.heap.size w W → Calls Try.prog 43 #[r0, r1, r2] W fun e w' => e = .returned (.int .i64 rl) ∧ Below W.heap.size W w') :
    Calls Try.prog 19 #[v, .func (.func 42) #[] #[p0], .func (.func 43) #[] #[r0, r1, r2]] w fun e w' => e = .returned (.int .i64 (eitherS c n rs rl)) ∧ Below w.heap.size w w' := by
  have H := Lib.hid h
  obtain ⟨ac, cc, ak, ck, rfl, h1, h2⟩ := h
  have hmf : ∀ (fn : Fn) (first cap : Array Value) (w : World), (Instr.makeFunc fn first cap).run Try.prog w = .ok (.func fn first cap) w := fun _ _ _ _ => rfl
  have HB := Lib.hid ((Below.refl w.heap.size w).alloc (Nat.le_refl _) (.cells #[.int .i64 c.size, .int .i64 c.pages, .slice ac c.classes.length cc, .slice ak c.keep.length ck, .int .i64 c.step, .int .i64 c.slots, .int .i64 c.gens, .int .i64 c.most, .int .i64 n] 35))
  have X0 := Lib.hid (blk_new w (.cells #[.int .i64 c.size, .int .i64 c.pages, .slice ac c.classes.length cc, .slice ak c.keep.length ck, .int .i64 c.step, .int .i64 c.slots, .int .i64 c.gens, .int .i64 c.most, .int .i64 n] 35))
  clear h1 h2
  by_cases g1 : 1 ≤ n ∧ n ≤ c.most
  · have E : ∀ w1, Below (w.alloc (.cells #[.int .i64 c.size, .int .i64 c.pages, .slice ac c.classes.length cc, .slice ak c.keep.length ck, .int .i64 c.step, .int .i64 c.slots, .int .i64 c.gens, .int .i64 c.most, .int .i64 n] 35)).heap.size (w.alloc (.cells #[.int .i64 c.size, .int .i64 c.pages, .slice ac c.classes.length cc, .slice ak c.keep.length ck, .int .i64 c.step, .int .i64 c.slots, .int .i64 c.gens, .int .i64 c.most, .int .i64 n] 35)) w1 → Below w.heap.size w w1 ∧ w1.heap[w.heap.size]? = some (.cells #[.int .i64 c.size, .int .i64 c.pages, .slice ac c.classes.length cc, .slice ak c.keep.length ck, .int .i64 c.step, .int .i64 c.slots, .int .i64 c.gens, .int .i64 c.most, .int .i64 n] 35 (0, 0)) := fun w1 b => ⟨HB.out.trans (b.mono HB.out.size), below_blk b X0.out (by simp)⟩
    have HE := Lib.hid E
    have dt := decide_eq_true g1
    by_cases g2 : n ≤ lastC c.classes
    · rw [show eitherS c n rs rl = rs from by unfold eitherS; rw [if_pos g1, if_pos g2]]
      have HS := Lib.hid (hS g1.1 g1.2 g2)
      have ds := decide_eq_true g2
      clear hS hL E g1 g2
      go_enter Try.func19, Try.ntmps19
      go_wp2_with fail
      refine (is_any _ _ c n (H.out.below HB.out)).mono ?_
      rw [dt]
      rintro e w1 ⟨rfl, b1⟩
      have e1 := HE.out w1 b1
      have B1 := Lib.hid e1.1
      have X1 := Lib.hid e1.2
      have x0 := blk_cell X1.out 0
      have x1 := blk_cell X1.out 1
      have x2 := blk_cell X1.out 2
      have x3 := blk_cell X1.out 3
      have x4 := blk_cell X1.out 4
      have x5 := blk_cell X1.out 5
      have x6 := blk_cell X1.out 6
      have x7 := blk_cell X1.out 7
      have x8 := blk_cell X1.out 8
      clear b1 e1
      go_wp2_with fail
      refine (tsmall_any _ _ c n (H.out.below B1.out)).mono ?_
      rw [ds]
      rintro e w2 ⟨rfl, b2⟩
      have B2 := Lib.hid (B1.out.trans (b2.mono B1.out.size))
      clear b2 x0 x1 x2 x3 x4 x5 x6 x7 x8
      go_wp2_with fail
      refine (HS.out w2 B2.out).mono ?_
      rintro e w3 ⟨rfl, b3⟩
      have B3 := Lib.hid (B2.out.trans (b3.mono B2.out.size))
      clear b3
      go_wp2_with fail
      go_ret
      exact ⟨rfl, B3.out⟩
    · rw [show eitherS c n rs rl = rl from by unfold eitherS; rw [if_pos g1, if_neg g2]]
      have HS := Lib.hid (hL g1.1 g1.2 (by omega))
      have ds := decide_eq_false g2
      clear hS hL E g1 g2
      go_enter Try.func19, Try.ntmps19
      go_wp2_with fail
      refine (is_any _ _ c n (H.out.below HB.out)).mono ?_
      rw [dt]
      rintro e w1 ⟨rfl, b1⟩
      have e1 := HE.out w1 b1
      have B1 := Lib.hid e1.1
      have X1 := Lib.hid e1.2
      have x0 := blk_cell X1.out 0
      have x1 := blk_cell X1.out 1
      have x2 := blk_cell X1.out 2
      have x3 := blk_cell X1.out 3
      have x4 := blk_cell X1.out 4
      have x5 := blk_cell X1.out 5
      have x6 := blk_cell X1.out 6
      have x7 := blk_cell X1.out 7
      have x8 := blk_cell X1.out 8
      clear b1 e1
      go_wp2_with fail
      refine (tsmall_any _ _ c n (H.out.below B1.out)).mono ?_
      rw [ds]
      rintro e w2 ⟨rfl, b2⟩
      have B2 := Lib.hid (B1.out.trans (b2.mono B1.out.size))
      clear b2 x0 x1 x2 x3 x4 x5 x6 x7 x8
      go_wp2_with fail
      refine (HS.out w2 B2.out).mono ?_
      rintro e w3 ⟨rfl, b3⟩
      have B3 := Lib.hid (B2.out.trans (b3.mono B2.out.size))
      clear b3
      go_wp2_with fail
      go_ret
      exact ⟨rfl, B3.out⟩
  · rw [show eitherS c n rs rl = 0 from if_neg g1]
    have dt := decide_eq_false g1
    clear hS hL g1
    go_enter Try.func19, Try.ntmps19
    go_wp2_with fail
    refine (is_any _ _ c n (H.out.below HB.out)).mono ?_
    rw [dt]
    rintro e w1 ⟨rfl, b1⟩
    have B1 := Lib.hid (HB.out.trans (b1.mono HB.out.size))
    clear b1
    go_wp2_with fail
    go_ret
    exact ⟨rfl, B1.out⟩
theorem alloc_any (w : World) (v : Value) (c : Cf) (n : Int) (h : CV w v c) (ok : OkMay c) : Calls Try.prog 7 #[v, .int .i64 n] w fun e w' => e = .returned (.int .i64 (allocS c n)) ∧ Below w.heap.size w w' := by
  obtain ⟨ac, cc, ak, ck, rfl, h1, h2⟩ := h
  have hmf : ∀ (fn : Fn) (first cap : Array Value) (w : World), (Instr.makeFunc fn first cap).run Try.prog w = .ok (.func fn first cap) w := fun _ _ _ _ => rfl
  have B0 := Lib.hid (((Below.refl w.heap.size w).alloc (Nat.le_refl _) (.cells #[.int .i64 c.size, .int .i64 c.pages, .slice ac c.classes.length cc, .slice ak c.keep.length ck, .int .i64 c.step, .int .i64 c.slots, .int .i64 c.gens, .int .i64 c.most] 24)).alloc (by simp) (.cells #[.int .i64 c.size, .int .i64 c.pages, .slice ac c.classes.length cc, .slice ak c.keep.length ck, .int .i64 c.step, .int .i64 c.slots, .int .i64 c.gens, .int .i64 c.most, .int .i64 n] 35))
  have P : Hid (PT ((w.alloc (.cells #[.int .i64 c.size, .int .i64 c.pages, .slice ac c.classes.length cc, .slice ak c.keep.length ck, .int .i64 c.step, .int .i64 c.slots, .int .i64 c.gens, .int .i64 c.most] 24)).alloc (.cells #[.int .i64 c.size, .int .i64 c.pages, .slice ac c.classes.length cc, .slice ak c.keep.length ck, .int .i64 c.step, .int .i64 c.slots, .int .i64 c.gens, .int .i64 c.most, .int .i64 n] 35)) (w.heap.size + 1) c n ac cc ak ck) := Lib.hid ⟨by have := blk_new (w.alloc (.cells #[.int .i64 c.size, .int .i64 c.pages, .slice ac c.classes.length cc, .slice ak c.keep.length ck, .int .i64 c.step, .int .i64 c.slots, .int .i64 c.gens, .int .i64 c.most] 24)) (.cells #[.int .i64 c.size, .int .i64 c.pages, .slice ac c.classes.length cc, .slice ak c.keep.length ck, .int .i64 c.step, .int .i64 c.slots, .int .i64 c.gens, .int .i64 c.most, .int .i64 n] 35); simpa using this, h1.keep B0.out, h2.keep B0.out⟩
  have Q : Hid (PC ((w.alloc (.cells #[.int .i64 c.size, .int .i64 c.pages, .slice ac c.classes.length cc, .slice ak c.keep.length ck, .int .i64 c.step, .int .i64 c.slots, .int .i64 c.gens, .int .i64 c.most] 24)).alloc (.cells #[.int .i64 c.size, .int .i64 c.pages, .slice ac c.classes.length cc, .slice ak c.keep.length ck, .int .i64 c.step, .int .i64 c.slots, .int .i64 c.gens, .int .i64 c.most, .int .i64 n] 35)) w.heap.size c ac cc ak ck) := Lib.hid (blk_alloc (blk_new w (.cells #[.int .i64 c.size, .int .i64 c.pages, .slice ac c.classes.length cc, .slice ak c.keep.length ck, .int .i64 c.step, .int .i64 c.slots, .int .i64 c.gens, .int .i64 c.most] 24)) _)
  have E := Lib.hid (either12 _ _ c n P.out.th (ptr (w.heap.size + 1)) (ptr (w.heap.size + 1)) (ptr w.heap.size) (9 + blk c n) (2 + 4 * allS n c.size + (2 + c.size) * manyS n c.size) (fun g1 g2 g3 W k => alloc1 W _ c n ac cc ak ck (P.out.below k) ok g1 g3) (fun g1 g2 g3 W k => alloc2 W _ _ c n ac cc ak ck (P.out.below k) (PC.below Q.out k) ok g1 g2))
  clear h1 h2
  go_enter Try.func7, Try.ntmps7
  go_wp2_with fail
  refine E.out.mono ?_
  rintro e w1 ⟨rfl, b1⟩
  have B1 := Lib.hid (B0.out.trans (b1.mono B0.out.size))
  clear b1
  go_wp2_with fail
  go_ret
  exact ⟨rfl, B1.out⟩
theorem free_any (w : World) (v : Value) (c : Cf) (n : Int) (h : CV w v c) (ok : OkMay c) : Calls Try.prog 9 #[v, .int .i64 n] w fun e w' => e = .returned (.int .i64 (freeS c n)) ∧ Below w.heap.size w w' := by
  obtain ⟨ac, cc, ak, ck, rfl, h1, h2⟩ := h
  have hmf : ∀ (fn : Fn) (first cap : Array Value) (w : World), (Instr.makeFunc fn first cap).run Try.prog w = .ok (.func fn first cap) w := fun _ _ _ _ => rfl
  have B0 := Lib.hid (((Below.refl w.heap.size w).alloc (Nat.le_refl _) (.cells #[.int .i64 c.size, .int .i64 c.pages, .slice ac c.classes.length cc, .slice ak c.keep.length ck, .int .i64 c.step, .int .i64 c.slots, .int .i64 c.gens, .int .i64 c.most] 24)).alloc (by simp) (.cells #[.int .i64 c.size, .int .i64 c.pages, .slice ac c.classes.length cc, .slice ak c.keep.length ck, .int .i64 c.step, .int .i64 c.slots, .int .i64 c.gens, .int .i64 c.most, .int .i64 n] 35))
  have P : Hid (PT ((w.alloc (.cells #[.int .i64 c.size, .int .i64 c.pages, .slice ac c.classes.length cc, .slice ak c.keep.length ck, .int .i64 c.step, .int .i64 c.slots, .int .i64 c.gens, .int .i64 c.most] 24)).alloc (.cells #[.int .i64 c.size, .int .i64 c.pages, .slice ac c.classes.length cc, .slice ak c.keep.length ck, .int .i64 c.step, .int .i64 c.slots, .int .i64 c.gens, .int .i64 c.most, .int .i64 n] 35)) (w.heap.size + 1) c n ac cc ak ck) := Lib.hid ⟨by have := blk_new (w.alloc (.cells #[.int .i64 c.size, .int .i64 c.pages, .slice ac c.classes.length cc, .slice ak c.keep.length ck, .int .i64 c.step, .int .i64 c.slots, .int .i64 c.gens, .int .i64 c.most] 24)) (.cells #[.int .i64 c.size, .int .i64 c.pages, .slice ac c.classes.length cc, .slice ak c.keep.length ck, .int .i64 c.step, .int .i64 c.slots, .int .i64 c.gens, .int .i64 c.most, .int .i64 n] 35); simpa using this, h1.keep B0.out, h2.keep B0.out⟩
  have Q : Hid (PC ((w.alloc (.cells #[.int .i64 c.size, .int .i64 c.pages, .slice ac c.classes.length cc, .slice ak c.keep.length ck, .int .i64 c.step, .int .i64 c.slots, .int .i64 c.gens, .int .i64 c.most] 24)).alloc (.cells #[.int .i64 c.size, .int .i64 c.pages, .slice ac c.classes.length cc, .slice ak c.keep.length ck, .int .i64 c.step, .int .i64 c.slots, .int .i64 c.gens, .int .i64 c.most, .int .i64 n] 35)) w.heap.size c ac cc ak ck) := Lib.hid (blk_alloc (blk_new w (.cells #[.int .i64 c.size, .int .i64 c.pages, .slice ac c.classes.length cc, .slice ak c.keep.length ck, .int .i64 c.step, .int .i64 c.slots, .int .i64 c.gens, .int .i64 c.most] 24)) _)
  have E := Lib.hid (either21 _ _ c n P.out.th (ptr (w.heap.size + 1)) (ptr w.heap.size) (ptr (w.heap.size + 1)) (27 + blk c n + min (blk c n) c.step) (3 + 4 * allS n c.size + manyS n c.size) (fun g1 g2 g3 W k => free1 W _ _ c n ac cc ak ck (P.out.below k) (PC.below Q.out k) ok g1 g3) (fun g1 g2 g3 W k => free2 W _ c n ac cc ak ck (P.out.below k) ok g1 g2))
  clear h1 h2
  go_enter Try.func9, Try.ntmps9
  go_wp2_with fail
  refine E.out.mono ?_
  rintro e w1 ⟨rfl, b1⟩
  have B1 := Lib.hid (B0.out.trans (b1.mono B0.out.size))
  clear b1
  go_wp2_with fail
  go_ret
  exact ⟨rfl, B1.out⟩
end Go.Proofs.Ytigojdhhgdfnkaa
