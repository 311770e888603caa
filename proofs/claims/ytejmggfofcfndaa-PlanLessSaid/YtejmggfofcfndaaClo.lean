/- The closures of plan: which counts may not be, which are let go. -/
import Derived.Test.YtejmggfofcfndaaRMoves
namespace Go.Proofs.Ytejmggfofcfndaa
open Go.RowKit
def badP (b x : Int) : Bool := decide (x < 1) || decide (b ≤ x)
def delP (b x : Int) : Bool := x == 0 || x == b
theorem clo_may (w : World) (g : Nat) (b x : Int) (hg : w.heap[g]? = some (.cells #[.int .i64 b] 3 (0, 0))) : Calls Try.prog 21 #[.int .i64 x, .pointer (some ⟨g, 0, none⟩)] w fun e w' => e = .returned (.bool (badP b x)) ∧ w = w' := by
  have c0 := blk_cell hg 0
  clear hg
  by_cases h : x < 1
  · rw [show badP b x = true from by simp [badP, h]]
    go_enter Try.func21, Try.ntmps21
    go_wp2_with fail
    go_ret
    exact ⟨rfl, rfl⟩
  · rw [show badP b x = decide (b ≤ x) from by simp [badP, h]]
    go_enter Try.func21, Try.ntmps21
    go_wp2_with fail
    go_ret
    exact ⟨rfl, rfl⟩
theorem clo_next (w : World) (g : Nat) (b x : Int) (hg : w.heap[g]? = some (.cells #[.int .i64 b] 3 (0, 0))) : Calls Try.prog 24 #[.int .i64 x, .pointer (some ⟨g, 0, none⟩)] w fun e w' => e = .returned (.bool (delP b x)) ∧ w = w' := by
  have c0 := blk_cell hg 0
  clear hg
  by_cases h : x = 0
  · subst h
    rw [show delP b 0 = true from by simp [delP]]
    go_enter Try.func24, Try.ntmps24
    go_wp2_with fail
    go_ret
    exact ⟨rfl, rfl⟩
  · have e0 : (x == 0) = false := beq_eq_false_iff_ne.2 h
    rw [show delP b x = (x == b) from by simp [delP, e0]]
    clear h
    go_enter Try.func24, Try.ntmps24
    go_wp2_with fail
    go_ret
    exact ⟨rfl, rfl⟩
end Go.Proofs.Ytejmggfofcfndaa
