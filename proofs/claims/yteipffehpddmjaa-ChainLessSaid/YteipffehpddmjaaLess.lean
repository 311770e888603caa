/- The walk through the law ChainLess. -/
import Derived.Test.YteipffehpddmjaaSame
import Derived.Test.YteipffehpddmjaaPlain
namespace Go.Proofs.Yteipffehpddmjaa
open Go.RowKit

theorem lawLess_any (w : World) (x y : Int) (hx : 0 ≤ x ∧ x ≤ 65535) (hy : 0 ≤ y ∧ y ≤ 255) :
    Calls Try.prog 6 #[.int .u16 x, .int .u8 y] w fun e w' => e = .returned (.bool true) ∧ Below w.heap.size w w' := by
  obtain ⟨n, hn⟩ : ∃ n, n = 1 + x := ⟨_, rfl⟩
  obtain ⟨p, hp⟩ : ∃ p, p = 8 + y := ⟨_, rfl⟩
  obtain ⟨f1, f2, f3, f4, f5⟩ := many_facts n p (by omega) (by omega)
  have f6 : allS n p = manyS n p + 1 := by unfold allS; rw [if_neg (by omega)]
  obtain ⟨m, hm⟩ : ∃ m, m = manyS n p := ⟨_, rfl⟩
  obtain ⟨m1, hm1⟩ : ∃ m1, m1 = manyS (n + 1) p := ⟨_, rfl⟩
  rw [← hm] at f1 f2 f3 f4 f5 f6
  rw [← hm1] at f2
  have r1 : 0 ≤ m1 ∧ m1 ≤ 9223372036854775807 := by rw [hm1]; exact manyS_range _ _ (by omega)
  have f7 : m * p ≤ 65536 * 263 := Int.mul_le_mul (by omega) (by omega) (by omega) (by omega)
  have g1 : decide (m ≤ m1) = true := by simpa using f2
  have g3 : decide (n ≤ m * p) = true := by simpa using f3
  have Hn := Lib.hid hn
  have Hp := Lib.hid hp
  have bn : 1 ≤ n ∧ n ≤ 65536 := by omega
  have bp : 8 ≤ p ∧ p ≤ 263 := by omega
  have Hm := Lib.hid hm
  have Hm1 := Lib.hid hm1
  clear hn hp hm hm1
  go_enter Try.func6, Try.ntmps6
  go_wp2_with fail
  refine (awake_any _).mono ?_
  rintro e w1 ⟨rfl, b1⟩
  go_wp2_with fail
  simp only [← Hn.out, ← Hp.out]
  refine (data_any _ (n + p) p (by omega)).mono ?_
  rintro e w2 ⟨rfl, rfl⟩
  rw [f1]
  go_wp2_with fail
  refine (data_any _ n p (by omega)).mono ?_
  rintro e w2 ⟨rfl, rfl⟩
  rw [← Hm.out]
  go_wp2_with fail
  refine (all_any _ n p (by omega)).mono ?_
  rintro e w2 ⟨rfl, rfl⟩
  rw [f6]
  go_wp2_with fail
  refine (data_any _ n p (by omega)).mono ?_
  rintro e w2 ⟨rfl, rfl⟩
  rw [← Hm.out]
  go_wp2_with fail
  refine (data_any _ (n + 1) p (by omega)).mono ?_
  rintro e w2 ⟨rfl, rfl⟩
  rw [← Hm1.out]
  go_wp2_with fail
  refine (data_any _ n p (by omega)).mono ?_
  rintro e w2 ⟨rfl, rfl⟩
  rw [← Hm.out]
  go_wp2_with fail
  refine (data_any _ n p (by omega)).mono ?_
  rintro e w2 ⟨rfl, rfl⟩
  rw [← Hm.out]
  go_wp2_with fail
  go_ret
  exact ⟨rfl, b1⟩
end Go.Proofs.Yteipffehpddmjaa
