/- bound's operations: reads and writes. -/
import Derived.Test.YtigojdhhgdfnkaaBound3
namespace Go.Proofs.Ytigojdhhgdfnkaa
open Go.RowKit Go.Sort
set_option linter.unusedVariables false

theorem access_any (w : World) (v : Value) (c : Cf) (size n each : Int) (h : CV w v c) (ok : OkMay c) (hn : -9223372036854775808 ≤ n ∧ n ≤ 9223372036854775807) : Calls Try.prog 33 #[v, .int .i64 size, .int .i64 n, .int .i64 each] w fun e w' => e = .returned (.int .i64 (accS c size n each)) ∧ Below w.heap.size w w' := by
  obtain ⟨ac, cc, ak, ck, rfl, h1, h2⟩ := h
  have hmf : ∀ (fn : Fn) (first cap : Array Value) (w : World), (Instr.makeFunc fn first cap).run Try.prog w = .ok (.func fn first cap) w := fun _ _ _ _ => rfl
  by_cases g0 : n < 0 ∨ size < n
  · rw [show accS c size n each = 0 from if_pos g0]
    have B0 := Lib.hid (((Below.refl w.heap.size w).alloc (Nat.le_refl _) (.cells #[.int .i64 c.size, .int .i64 c.pages, .slice ac c.classes.length cc, .slice ak c.keep.length ck, .int .i64 c.step, .int .i64 c.slots, .int .i64 c.gens, .int .i64 c.most] 24)).alloc (by simp) (.cells #[.int .i64 n] 3))
    clear h1 h2 ok
    by_cases g1 : n < 0
    · clear g0
      go_enter Try.func33, Try.ntmps33
      go_wp2_with fail
      go_ret
      exact ⟨rfl, B0.out⟩
    · have g2 : size < n := by omega
      clear g0
      go_enter Try.func33, Try.ntmps33
      go_wp2_with fail
      go_ret
      exact ⟨rfl, B0.out⟩
  · have g1 : 0 ≤ n := by omega
    have g2 : n ≤ size := by omega
    obtain ⟨q, hq⟩ : ∃ q, q = wrap64 (each * n) := ⟨_, rfl⟩
    obtain ⟨b, hb⟩ : ∃ b, b = sumW [1, q] := ⟨_, rfl⟩
    rw [show accS c size n each = eitherS c size b (sumW [b, manyS n c.size + 1]) from by rw [hb, hq]; exact if_neg g0]
    have B0 := Lib.hid (((((Below.refl w.heap.size w).alloc (Nat.le_refl _) (.cells #[.int .i64 c.size, .int .i64 c.pages, .slice ac c.classes.length cc, .slice ak c.keep.length ck, .int .i64 c.step, .int .i64 c.slots, .int .i64 c.gens, .int .i64 c.most] 24)).alloc (by simp) (.cells #[.int .i64 n] 3)).alloc (by simp; omega) (.cells #[.int .i64 1, .int .i64 q] 3)).alloc (by simp; omega) (.cells #[.int .i64 b] 3))
    have X0 : Hid (PC ((((w.alloc (.cells #[.int .i64 c.size, .int .i64 c.pages, .slice ac c.classes.length cc, .slice ak c.keep.length ck, .int .i64 c.step, .int .i64 c.slots, .int .i64 c.gens, .int .i64 c.most] 24)).alloc (.cells #[.int .i64 n] 3)).alloc (.cells #[.int .i64 1, .int .i64 q] 3)).alloc (.cells #[.int .i64 b] 3)) w.heap.size c ac cc ak ck) := Lib.hid (blk_alloc (blk_alloc (blk_alloc (blk_new w (.cells #[.int .i64 c.size, .int .i64 c.pages, .slice ac c.classes.length cc, .slice ak c.keep.length ck, .int .i64 c.step, .int .i64 c.slots, .int .i64 c.gens, .int .i64 c.most] 24)) _) _) _)
    have X1 : Hid (((((w.alloc (.cells #[.int .i64 c.size, .int .i64 c.pages, .slice ac c.classes.length cc, .slice ak c.keep.length ck, .int .i64 c.step, .int .i64 c.slots, .int .i64 c.gens, .int .i64 c.most] 24)).alloc (.cells #[.int .i64 n] 3)).alloc (.cells #[.int .i64 1, .int .i64 q] 3)).alloc (.cells #[.int .i64 b] 3)).heap[w.heap.size + 1]? = some (.cells #[.int .i64 n] 3 (0, 0))) := Lib.hid (blk_alloc (blk_alloc (by have := blk_new (w.alloc (.cells #[.int .i64 c.size, .int .i64 c.pages, .slice ac c.classes.length cc, .slice ak c.keep.length ck, .int .i64 c.step, .int .i64 c.slots, .int .i64 c.gens, .int .i64 c.most] 24)) (.cells #[.int .i64 n] 3); simpa using this) _) _)
    have X3 : Hid (((((w.alloc (.cells #[.int .i64 c.size, .int .i64 c.pages, .slice ac c.classes.length cc, .slice ak c.keep.length ck, .int .i64 c.step, .int .i64 c.slots, .int .i64 c.gens, .int .i64 c.most] 24)).alloc (.cells #[.int .i64 n] 3)).alloc (.cells #[.int .i64 1, .int .i64 q] 3)).alloc (.cells #[.int .i64 b] 3)).heap[w.heap.size + 3]? = some (.cells #[.int .i64 b] 3 (0, 0))) := Lib.hid (by have := blk_new (((w.alloc (.cells #[.int .i64 c.size, .int .i64 c.pages, .slice ac c.classes.length cc, .slice ak c.keep.length ck, .int .i64 c.step, .int .i64 c.slots, .int .i64 c.gens, .int .i64 c.most] 24)).alloc (.cells #[.int .i64 n] 3)).alloc (.cells #[.int .i64 1, .int .i64 q] 3)) (.cells #[.int .i64 b] 3); simpa using this)
    have T : Hid (TH ((((w.alloc (.cells #[.int .i64 c.size, .int .i64 c.pages, .slice ac c.classes.length cc, .slice ak c.keep.length ck, .int .i64 c.step, .int .i64 c.slots, .int .i64 c.gens, .int .i64 c.most] 24)).alloc (.cells #[.int .i64 n] 3)).alloc (.cells #[.int .i64 1, .int .i64 q] 3)).alloc (.cells #[.int .i64 b] 3)) (.agg #[.int .i64 c.size, .int .i64 c.pages, .slice ac c.classes.length cc, .slice ak c.keep.length ck, .int .i64 c.step, .int .i64 c.slots, .int .i64 c.gens, .int .i64 c.most, .int .i64 size]) c size) := Lib.hid ⟨ac, cc, ak, ck, rfl, h1.keep B0.out, h2.keep B0.out⟩
    have E := Lib.hid (either13 _ _ c size T.out (ptr (w.heap.size + 3)) (ptr (w.heap.size + 3)) (ptr (w.heap.size + 1)) (ptr w.heap.size) b (sumW [b, manyS n c.size + 1]) (fun _ _ _ W k => acc1 W _ b (below_blk k X3.out (blk_lt X3.out))) (fun _ m _ W k => acc2 W _ _ _ b c n ac cc ak ck (below_blk k X3.out (blk_lt X3.out)) (below_blk k X1.out (blk_lt X1.out)) (PC.below X0.out k) (many_below ok g1 g2 m) hn.2))
    have Hb := Lib.hid hb
    have Hq := Lib.hid hq
    clear h1 h2 ok g0 hb hq
    go_enter Try.func33, Try.ntmps33
    go_wp2_with fail
    rw [← Hq.out]
    refine (sum_at2 ((w.alloc (.cells #[.int .i64 c.size, .int .i64 c.pages, .slice ac c.classes.length cc, .slice ak c.keep.length ck, .int .i64 c.step, .int .i64 c.slots, .int .i64 c.gens, .int .i64 c.most] 24)).alloc (.cells #[.int .i64 n] 3)) (w.heap.size + 2) (by simp) 1 q).mono ?_
    rintro e w1 ⟨rfl, rfl⟩
    rw [← Hb.out]
    go_wp2_with fail
    refine E.out.mono ?_
    rintro e w1 ⟨rfl, b1⟩
    have B1 := Lib.hid (B0.out.trans (b1.mono B0.out.size))
    clear b1
    go_wp2_with fail
    go_ret
    exact ⟨rfl, B1.out⟩
theorem read_any (w : World) (v : Value) (c : Cf) (size n : Int) (h : CV w v c) (ok : OkMay c) (hn : -9223372036854775808 ≤ n ∧ n ≤ 9223372036854775807) : Calls Try.prog 13 #[v, .int .i64 size, .int .i64 n] w fun e w' => e = .returned (.int .i64 (accS c size n 1)) ∧ Below w.heap.size w w' := by
  have H := Lib.hid h
  obtain ⟨ac, cc, ak, ck, rfl, h1, h2⟩ := h
  have B0 := Lib.hid ((Below.refl w.heap.size w).alloc (Nat.le_refl _) (.cells #[.int .i64 c.size, .int .i64 c.pages, .slice ac c.classes.length cc, .slice ak c.keep.length ck, .int .i64 c.step, .int .i64 c.slots, .int .i64 c.gens, .int .i64 c.most] 24))
  have E := Lib.hid (access_any _ _ c size n 1 (H.out.below B0.out) ok hn)
  clear h1 h2 ok
  go_enter Try.func13, Try.ntmps13
  go_wp2_with fail
  refine E.out.mono ?_
  rintro e w1 ⟨rfl, b1⟩
  have B1 := Lib.hid (B0.out.trans (b1.mono B0.out.size))
  clear b1
  go_wp2_with fail
  go_ret
  exact ⟨rfl, B1.out⟩
theorem write_any (w : World) (v : Value) (c : Cf) (size n : Int) (h : CV w v c) (ok : OkMay c) (hn : -9223372036854775808 ≤ n ∧ n ≤ 9223372036854775807) : Calls Try.prog 14 #[v, .int .i64 size, .int .i64 n] w fun e w' => e = .returned (.int .i64 (accS c size n 2)) ∧ Below w.heap.size w w' := by
  have H := Lib.hid h
  obtain ⟨ac, cc, ak, ck, rfl, h1, h2⟩ := h
  have B0 := Lib.hid ((Below.refl w.heap.size w).alloc (Nat.le_refl _) (.cells #[.int .i64 c.size, .int .i64 c.pages, .slice ac c.classes.length cc, .slice ak c.keep.length ck, .int .i64 c.step, .int .i64 c.slots, .int .i64 c.gens, .int .i64 c.most] 24))
  have E := Lib.hid (access_any _ _ c size n 2 (H.out.below B0.out) ok hn)
  clear h1 h2 ok
  go_enter Try.func14, Try.ntmps14
  go_wp2_with fail
  refine E.out.mono ?_
  rintro e w1 ⟨rfl, b1⟩
  have B1 := Lib.hid (B0.out.trans (b1.mono B0.out.size))
  clear b1
  go_wp2_with fail
  go_ret
  exact ⟨rfl, B1.out⟩
end Go.Proofs.Ytigojdhhgdfnkaa
