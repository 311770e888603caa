/- The contract of unit.Many: for all whole numbers of int, in every world; what it answers, as a plain Lean function. -/
import Derived.Test.YthhpkinedbdlhaaRows
import Derived.Test.YthhpkinedbdlhaaFrame
namespace Go.Proofs.Ythhpkinedbdlhaa
open Go.RowKit

def manyS (n b : Int) : Int := if n < 1 ∨ b < 1 then 0 else (n - 1) / b + 1

theorem div_bounds (n b : Int) (hn : 0 ≤ n) (hb : 1 ≤ b) : 0 ≤ n / b ∧ n / b ≤ n := ⟨Int.ediv_nonneg hn (by omega), Int.ediv_le_self _ hn⟩
theorem mod_bounds (n b : Int) (hb : 1 ≤ b) : 0 ≤ n % b ∧ n % b < b := ⟨Int.emod_nonneg _ (by omega), Int.emod_lt_of_pos _ (by omega)⟩

theorem none_yes (w : World) (n b : Int) (h : n < 1 ∨ b < 1) : Calls Try.prog 39 #[.int .i64 n, .int .i64 b] w fun e w' => e = .returned (.bool true) ∧ w = w' := by
  by_cases h1 : n < 1
  · clear h
    go_enter Try.func39, Try.ntmps39
    go_wp2
    go_ret
    exact ⟨rfl, rfl⟩
  · have h2 : b < 1 := by omega
    clear h
    go_enter Try.func39, Try.ntmps39
    go_wp2
    go_ret
    exact ⟨rfl, rfl⟩
theorem none_no (w : World) (n b : Int) (hn : 1 ≤ n) (hb : 1 ≤ b) : Calls Try.prog 39 #[.int .i64 n, .int .i64 b] w fun e w' => e = .returned (.bool false) ∧ w = w' := by
  go_enter Try.func39, Try.ntmps39
  go_wp2
  go_ret
  exact ⟨by simp; omega, rfl⟩

theorem many_any (w : World) (n b : Int) (hn2 : n ≤ 9223372036854775807) : Calls Try.prog 26 #[.int .i64 n, .int .i64 b] w fun e w' => e = .returned (.int .i64 (manyS n b)) ∧ w = w' := by
  by_cases h : n < 1 ∨ b < 1
  · rw [manyS, if_pos h]
    have H := Lib.hid h
    clear h
    go_enter Try.func26, Try.ntmps26
    go_wp2_with fail
    refine (none_yes _ n b H.out).mono ?_
    rintro e w' ⟨rfl, rfl⟩
    go_wp2_with fail
    go_ret
    exact ⟨rfl, rfl⟩
  · rw [manyS, if_neg h]
    have h1 : 1 ≤ n := by omega
    have h2 : 1 ≤ b := by omega
    clear h
    have hd := div_bounds (n - 1) b (by omega) h2
    have hq : (n - 1).tdiv b = (n - 1) / b := Int.tdiv_eq_ediv_of_nonneg (by omega)
    go_enter Try.func26, Try.ntmps26
    go_wp2_with fail
    refine (none_no _ n b h1 h2).mono ?_
    rintro e w' ⟨rfl, rfl⟩
    go_wp2_with fail
    go_ret
    exact ⟨rfl, rfl⟩
theorem many_split (n b : Int) (hn : 1 ≤ n) (hb : 1 ≤ b) : manyS n b = if 0 < n % b then n / b + 1 else n / b := by
  rw [manyS, if_neg (by omega)]
  have hm := mod_bounds n b hb
  have e := Int.mul_ediv_add_emod n b
  split
  · have h2 : (n - 1) / b = n / b := by
      rw [Int.ediv_eq_iff_of_pos (by omega)]
      have := Int.mul_comm b (n / b)
      constructor
      · omega
      · have h3 : (n / b + 1) * b = n / b * b + b := by rw [Int.add_mul, Int.one_mul]
        omega
    omega
  · have h2 : (n - 1) / b = n / b - 1 := by
      rw [Int.ediv_eq_iff_of_pos (by omega)]
      have := Int.mul_comm b (n / b)
      have h3 : (n / b - 1) * b = n / b * b - b := by rw [Int.sub_mul, Int.one_mul]
      have h4 : (n / b - 1 + 1) * b = n / b * b := by rw [Int.sub_add_cancel]
      constructor <;> omega
    omega

end Go.Proofs.Ythhpkinedbdlhaa
