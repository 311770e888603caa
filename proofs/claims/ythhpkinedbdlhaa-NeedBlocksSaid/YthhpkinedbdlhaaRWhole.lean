/- The contract of the reference's Whole (almeryref01): for all whole numbers of int, in every world. -/
import Derived.Test.YthhpkinedbdlhaaWhole
namespace Go.Proofs.Ythhpkinedbdlhaa
open Go.RowKit

theorem rwhole_any (w : World) (n b : Int) (hn2 : n ≤ 9223372036854775807) : Calls Try.prog 38 #[.int .i64 n, .int .i64 b] w fun e w' => e = .returned (.int .i64 (wholeS n b)) ∧ w = w' := by
  by_cases h1 : n < 1
  · rw [wholeS, if_pos (by omega)]
    go_enter Try.func38, Try.ntmps38
    go_wp2
    go_ret
    exact ⟨rfl, rfl⟩
  by_cases h2 : b < 1
  · rw [wholeS, if_pos (by omega)]
    go_enter Try.func38, Try.ntmps38
    go_wp2
    go_ret
    exact ⟨rfl, rfl⟩
  rw [wholeS, if_neg (by omega)]
  have hd := div_bounds n b (by omega) (by omega)
  go_enter Try.func38, Try.ntmps38
  go_wp2
  go_ret
  exact ⟨rfl, rfl⟩
end Go.Proofs.Ythhpkinedbdlhaa
