/- The contract of unit.Whole: for all whole numbers of int, in every world. -/
import Derived.Test.YthhpkinedbdlhaaMany
namespace Go.Proofs.Ythhpkinedbdlhaa
open Go.RowKit

def wholeS (n b : Int) : Int := if n < 1 ∨ b < 1 then 0 else n / b

theorem whole_any (w : World) (n b : Int) (hn2 : n ≤ 9223372036854775807) : Calls Try.prog 40 #[.int .i64 n, .int .i64 b] w fun e w' => e = .returned (.int .i64 (wholeS n b)) ∧ w = w' := by
  by_cases h : n < 1 ∨ b < 1
  · rw [wholeS, if_pos h]
    have H := Lib.hid h
    clear h
    go_enter Try.func40, Try.ntmps40
    go_wp2_with fail
    refine (none_yes _ n b H.out).mono ?_
    rintro e w' ⟨rfl, rfl⟩
    go_wp2_with fail
    go_ret
    exact ⟨rfl, rfl⟩
  · rw [wholeS, if_neg h]
    have h1 : 1 ≤ n := by omega
    have h2 : 1 ≤ b := by omega
    clear h
    have hd := div_bounds n b (by omega) h2
    go_enter Try.func40, Try.ntmps40
    go_wp2_with fail
    refine (none_no _ n b h1 h2).mono ?_
    rintro e w' ⟨rfl, rfl⟩
    go_wp2_with fail
    go_ret
    exact ⟨rfl, rfl⟩
end Go.Proofs.Ythhpkinedbdlhaa
