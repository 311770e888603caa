/- The contract of ident.may: for all whole numbers of int, in every world. -/
import Derived.Test.YtkbifnbblimnlaaRows
import Derived.Test.YtkbifnbblimnlaaFrame
namespace Go.Proofs.Ytkbifnbblimnlaa
open Go.RowKit

def mayB (slot gen : Int) : Bool := decide (0 ≤ slot ∧ slot ≤ 4095 ∧ 1 ≤ gen ∧ gen ≤ 1023)
theorem mayB_yes {s g : Int} (h : 0 ≤ s ∧ s ≤ 4095 ∧ 1 ≤ g ∧ g ≤ 1023) : mayB s g = true := by unfold mayB; exact decide_eq_true h
theorem mayB_no {s g : Int} (h : ¬ (0 ≤ s ∧ s ≤ 4095 ∧ 1 ≤ g ∧ g ≤ 1023)) : mayB s g = false := by unfold mayB; exact decide_eq_false h

set_option maxHeartbeats 1000000 in
theorem may_any (w : World) (s g : Int) : Calls Try.prog 28 #[.int .i64 s, .int .i64 g] w fun e w' => e = .returned (.bool (mayB s g)) ∧ Below w.heap.size w w' := by
  by_cases h1 : s < 0
  · rw [mayB_no (by omega)]
    go_enter Try.func28, Try.ntmps28
    go_wp2
    refine wp_loop_rounds 3 ?_
    rw [rounds_succ]
    go_wp2
    go_ret
    exact ⟨rfl, by go_grown⟩
  by_cases h2 : 4095 < s
  · rw [mayB_no (by omega)]
    go_enter Try.func28, Try.ntmps28
    go_wp2
    refine wp_loop_rounds 3 ?_
    rw [rounds_succ]
    go_wp2
    go_ret
    exact ⟨rfl, by go_grown⟩
  by_cases h3 : g < 1
  · rw [mayB_no (by omega)]
    go_enter Try.func28, Try.ntmps28
    go_wp2
    refine wp_loop_rounds 3 ?_
    rw [rounds_succ]
    go_wp2
    rw [rounds_succ]
    go_wp2
    go_ret
    exact ⟨rfl, by go_grown⟩
  by_cases h4 : 1023 < g
  · rw [mayB_no (by omega)]
    go_enter Try.func28, Try.ntmps28
    go_wp2
    refine wp_loop_rounds 3 ?_
    rw [rounds_succ]
    go_wp2
    rw [rounds_succ]
    go_wp2
    go_ret
    exact ⟨rfl, by go_grown⟩
  · rw [mayB_yes (by omega)]
    go_enter Try.func28, Try.ntmps28
    go_wp2
    refine wp_loop_rounds 3 ?_
    rw [rounds_succ]
    go_wp2
    rw [rounds_succ]
    go_wp2
    rw [rounds_succ]
    go_wp2
    go_ret
    exact ⟨rfl, by go_grown⟩

end Go.Proofs.Ytkbifnbblimnlaa
