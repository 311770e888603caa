/- Contracts of chain.Data and chain.All: for all whole numbers of int, in every world. -/
import Derived.Test.YthhpkinedbdlhaaMany
namespace Go.Proofs.Ythhpkinedbdlhaa
open Go.RowKit

def allS (n b : Int) : Int := if manyS n b = 0 ∨ manyS n b = 9223372036854775807 then 0 else manyS n b + 1

theorem manyS_range (n b : Int) (hn : n ≤ 9223372036854775807) : 0 ≤ manyS n b ∧ manyS n b ≤ 9223372036854775807 := by
  unfold manyS
  split
  · omega
  · have := div_bounds (n - 1) b (by omega) (by omega)
    omega

theorem data_any (w : World) (n b : Int) (hn2 : n ≤ 9223372036854775807) : Calls Try.prog 41 #[.int .i64 n, .int .i64 b] w fun e w' => e = .returned (.int .i64 (manyS n b)) ∧ w = w' := by
  go_enter Try.func41, Try.ntmps41
  go_wp2_with fail
  refine (many_any _ n b hn2).mono ?_
  rintro e w' ⟨rfl, rfl⟩
  go_wp2_with fail
  go_ret
  exact ⟨rfl, rfl⟩

theorem all_any (w : World) (n b : Int) (hn2 : n ≤ 9223372036854775807) : Calls Try.prog 30 #[.int .i64 n, .int .i64 b] w fun e w' => e = .returned (.int .i64 (allS n b)) ∧ w = w' := by
  have hr := manyS_range n b hn2
  have ha : allS n b = if manyS n b = 0 ∨ manyS n b = 9223372036854775807 then 0 else manyS n b + 1 := rfl
  obtain ⟨m, hm⟩ : ∃ m, m = manyS n b := ⟨_, rfl⟩
  rw [← hm] at hr ha
  rw [ha]
  have Hm := Lib.hid hm
  clear hm ha
  by_cases h1 : m = 0
  · rw [if_pos (by omega)]
    subst h1
    go_enter Try.func30, Try.ntmps30
    go_wp2_with fail
    refine (data_any _ n b hn2).mono ?_
    rintro e w' ⟨rfl, rfl⟩
    rw [← Hm.out]
    go_wp2_with fail
    go_ret
    exact ⟨rfl, rfl⟩
  · by_cases h2 : m = 9223372036854775807
    · rw [if_pos (by omega)]
      subst h2
      go_enter Try.func30, Try.ntmps30
      go_wp2_with fail
      refine (data_any _ n b hn2).mono ?_
      rintro e w' ⟨rfl, rfl⟩
      rw [← Hm.out]
      go_wp2_with fail
      go_ret
      exact ⟨rfl, rfl⟩
    · rw [if_neg (by omega)]
      have e1 : (m == 0) = false := by simp; exact h1
      have e2 : (m == 9223372036854775807) = false := by simp; exact h2
      go_enter Try.func30, Try.ntmps30
      go_wp2_with fail
      refine (data_any _ n b hn2).mono ?_
      rintro e w' ⟨rfl, rfl⟩
      rw [← Hm.out]
      go_wp2_with fail
      go_ret
      exact ⟨rfl, rfl⟩
end Go.Proofs.Ythhpkinedbdlhaa
