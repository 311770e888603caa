/- The contract of the reference's Many (almeryref01): for all whole numbers of int, in every world. -/
import Derived.Test.YthhpkinedbdlhaaMany
namespace Go.Proofs.Ythhpkinedbdlhaa
open Go.RowKit

theorem rmany_any (w : World) (n b : Int) (hn2 : n ≤ 9223372036854775807) : Calls Try.prog 31 #[.int .i64 n, .int .i64 b] w fun e w' => e = .returned (.int .i64 (manyS n b)) ∧ w = w' := by
  by_cases h1 : n < 1
  · rw [manyS, if_pos (by omega)]
    go_enter Try.func31, Try.ntmps31
    go_wp2
    go_ret
    exact ⟨rfl, rfl⟩
  by_cases h2 : b < 1
  · rw [manyS, if_pos (by omega)]
    go_enter Try.func31, Try.ntmps31
    go_wp2
    go_ret
    exact ⟨rfl, rfl⟩
  have hs := many_split n b (by omega) (by omega)
  have hm := mod_bounds n b (by omega)
  have hd := div_bounds n b (by omega) (by omega)
  by_cases h3 : 0 < n % b
  · rw [if_pos h3] at hs
    rw [hs]
    have hd2 : n / b + 1 ≤ n := by
      have h4 : b ≠ 1 := by intro e; subst e; simp at h3
      have h5 : 2 * (n / b) ≤ b * (n / b) := Int.mul_le_mul_of_nonneg_right (by omega) hd.1
      have h6 := Int.mul_ediv_add_emod n b
      omega
    clear hs
    go_enter Try.func31, Try.ntmps31
    go_wp2
    go_ret
    exact ⟨rfl, rfl⟩
  · rw [if_neg h3] at hs
    rw [hs]
    clear hs
    go_enter Try.func31, Try.ntmps31
    go_wp2
    go_ret
    exact ⟨rfl, rfl⟩

end Go.Proofs.Ythhpkinedbdlhaa
