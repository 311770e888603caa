/- Contracts of package unit's functions: for all whole numbers of int, in every world; what they answer, as plain Lean functions. -/
import Derived.Test.YtonanghhepadkaaRows
import Derived.Test.YtonanghhepadkaaFrame
namespace Go.Proofs.Ytonanghhepadkaa
open Go.RowKit

def manyS (n b : Int) : Int := if n < 1 ∨ b < 1 then 0 else (n - 1) / b + 1
def wholeS (n b : Int) : Int := if n < 1 ∨ b < 1 then 0 else n / b

theorem div_bounds (n b : Int) (hn : 0 ≤ n) (hb : 1 ≤ b) : 0 ≤ n / b ∧ n / b ≤ n := ⟨Int.ediv_nonneg hn (by omega), Int.ediv_le_self _ hn⟩
theorem mod_bounds (n b : Int) (hb : 1 ≤ b) : 0 ≤ n % b ∧ n % b < b := ⟨Int.emod_nonneg _ (by omega), Int.emod_lt_of_pos _ (by omega)⟩

theorem none_yes (w : World) (n b : Int) (h : n < 1 ∨ b < 1) : Calls Try.prog 17 #[.int .i64 n, .int .i64 b] w fun e w' => e = .returned (.bool true) ∧ w = w' := by
  by_cases h1 : n < 1
  · clear h
    go_enter Try.func17, Try.ntmps17
    go_wp2
    go_ret
    exact ⟨rfl, rfl⟩
  · have h2 : b < 1 := by omega
    clear h
    go_enter Try.func17, Try.ntmps17
    go_wp2
    go_ret
    exact ⟨rfl, rfl⟩
theorem none_no (w : World) (n b : Int) (hn : 1 ≤ n) (hb : 1 ≤ b) : Calls Try.prog 17 #[.int .i64 n, .int .i64 b] w fun e w' => e = .returned (.bool false) ∧ w = w' := by
  go_enter Try.func17, Try.ntmps17
  go_wp2
  go_ret
  exact ⟨by simp; omega, rfl⟩

theorem many_any (w : World) (n b : Int) (hn2 : n ≤ 9223372036854775807) : Calls Try.prog 9 #[.int .i64 n, .int .i64 b] w fun e w' => e = .returned (.int .i64 (manyS n b)) ∧ w = w' := by
  by_cases h : n < 1 ∨ b < 1
  · rw [manyS, if_pos h]
    have H := Lib.hid h
    clear h
    go_enter Try.func9, Try.ntmps9
    go_wp2_with fail
    refine (none_yes _ n b H.out).mono ?_
    rintro e w' ⟨rfl, rfl⟩
    go_wp2_with fail
    go_ret
    exact ⟨rfl, rfl⟩
  · rw [manyS, if_neg h]
    have h1 : 1 ≤ n := by omega
    have h2 : 1 ≤ b := by omega
    clear h
    have hd := div_bounds (n - 1) b (by omega) h2
    have hq : (n - 1).tdiv b = (n - 1) / b := Int.tdiv_eq_ediv_of_nonneg (by omega)
    go_enter Try.func9, Try.ntmps9
    go_wp2_with fail
    refine (none_no _ n b h1 h2).mono ?_
    rintro e w' ⟨rfl, rfl⟩
    go_wp2_with fail
    go_ret
    exact ⟨rfl, rfl⟩
theorem whole_any (w : World) (n b : Int) (hn2 : n ≤ 9223372036854775807) : Calls Try.prog 11 #[.int .i64 n, .int .i64 b] w fun e w' => e = .returned (.int .i64 (wholeS n b)) ∧ w = w' := by
  by_cases h : n < 1 ∨ b < 1
  · rw [wholeS, if_pos h]
    have H := Lib.hid h
    clear h
    go_enter Try.func11, Try.ntmps11
    go_wp2_with fail
    refine (none_yes _ n b H.out).mono ?_
    rintro e w' ⟨rfl, rfl⟩
    go_wp2_with fail
    go_ret
    exact ⟨rfl, rfl⟩
  · rw [wholeS, if_neg h]
    have h1 : 1 ≤ n := by omega
    have h2 : 1 ≤ b := by omega
    clear h
    have hd := div_bounds n b (by omega) h2
    go_enter Try.func11, Try.ntmps11
    go_wp2_with fail
    refine (none_no _ n b h1 h2).mono ?_
    rintro e w' ⟨rfl, rfl⟩
    go_wp2_with fail
    go_ret
    exact ⟨rfl, rfl⟩
end Go.Proofs.Ytonanghhepadkaa
