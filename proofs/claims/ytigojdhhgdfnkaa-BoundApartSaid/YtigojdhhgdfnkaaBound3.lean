/- bound's operations, the other ones. -/
import Derived.Test.YtigojdhhgdfnkaaBound2
namespace Go.Proofs.Ytigojdhhgdfnkaa
open Go.RowKit Go.Sort
set_option linter.unusedVariables false

theorem sum_at2 (w : World) (g : Nat) (hg : g = w.heap.size) (x0 x1 : Int) : Calls Try.prog 21 #[.slice (some ⟨g, 0, none⟩) 2 2] (w.alloc (.cells #[.int .i64 x0, .int .i64 x1] 3)) fun e w' => e = .returned (.int .i64 (sumW [x0, x1])) ∧ (w.alloc (.cells #[.int .i64 x0, .int .i64 x1] 3)) = w' := by
  subst hg
  exact sum_new2 w x0 x1
theorem tick_any (w : World) (v : Value) (c : Cf) (h : CV w v c) (ok : OkMay c) : Calls Try.prog 11 #[v] w fun e w' => e = .returned (.int .i64 (tickS c)) ∧ Below w.heap.size w w' := by
  obtain ⟨ac, cc, ak, ck, rfl, h1, h2⟩ := h
  have hp := ok.pos
  have hst := ok.step
  have B0 := Lib.hid ((Below.refl w.heap.size w).alloc (Nat.le_refl _) (.cells #[.int .i64 c.size, .int .i64 c.pages, .slice ac c.classes.length cc, .slice ak c.keep.length ck, .int .i64 c.step, .int .i64 c.slots, .int .i64 c.gens, .int .i64 c.most] 24))
  have hs := sumW2 c.step (c.classes.length * 10) (by omega) (by omega) (by omega)
  rw [show c.step + (c.classes.length : Int) * 10 = tickS c from by unfold tickS; omega] at hs
  have HS := Lib.hid hs
  have e1 : IntKind.i64.wrap ((c.classes.length : Int) * 10) = (c.classes.length : Int) * 10 := IntWalk.i64_in _ (by omega)
  clear h1 h2 ok hs
  generalize tickS c = tk at HS ⊢
  generalize c.classes.length = m at hp HS e1 B0 ⊢
  generalize c.step = st at hst HS B0 ⊢
  go_enter Try.func11, Try.ntmps11
  go_wp2_with fail
  refine (sum_at2 (w.alloc (.cells #[.int .i64 c.size, .int .i64 c.pages, .slice ac m cc, .slice ak c.keep.length ck, .int .i64 st, .int .i64 c.slots, .int .i64 c.gens, .int .i64 c.most] 24)) (w.heap.size + 1) (by simp) st ((m : Int) * 10)).mono ?_
  rintro e w1 ⟨rfl, rfl⟩
  go_wp2_with fail
  go_ret
  exact ⟨by rw [HS.out]; rfl, B0.out.alloc B0.out.size _⟩
end Go.Proofs.Ytigojdhhgdfnkaa
