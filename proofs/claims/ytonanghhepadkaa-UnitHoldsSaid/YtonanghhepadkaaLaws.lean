/- Contracts of the reference's Up and Spare, the laws' own start, and the walks of the laws of package unit: for all arguments, in every world. -/
import Derived.Test.YtonanghhepadkaaUnitRef
namespace Go.Proofs.Ytonanghhepadkaa
open Go.RowKit

theorem rup_any (w : World) (n b : Int) (hn2 : n ≤ 9223372036854775807) (hb2 : b ≤ 9223372036854775807) : Calls Try.prog 14 #[.int .i64 n, .int .i64 b] w fun e w' => e = .returned (.int .i64 (upS n b)) ∧ w = w' := by
  by_cases h : n < 1 ∨ b < 1
  · have hm : manyS n b = 0 := by rw [manyS, if_pos h]
    rw [upS, if_pos h]
    clear h
    go_enter Try.func14, Try.ntmps14
    go_wp2_with fail
    refine (rmany_any _ n b hn2).mono ?_
    rintro e w' ⟨rfl, rfl⟩
    go_wp2_with fail
    go_ret
    exact ⟨rfl, rfl⟩
  · have h1 : 1 ≤ n := by omega
    have h2 : 1 ≤ b := by omega
    have hd := div_bounds 9223372036854775807 b (by omega) h2
    have hd1 := div_bounds (n - 1) b (by omega) h2
    have hle : manyS n b ≤ 9223372036854775807 / b ↔ manyS n b * b ≤ 9223372036854775807 := Int.le_ediv_iff_mul_le (by omega)
    have hm1 : 1 ≤ manyS n b := by rw [manyS, if_neg h]; omega
    have hm2 : 0 ≤ manyS n b * b := Int.mul_nonneg (by omega) (by omega)
    rw [upS, if_neg h]
    obtain ⟨m, hm⟩ : ∃ m, m = manyS n b := ⟨_, rfl⟩
    rw [← hm] at hle hm1 hm2 ⊢
    have Hm := Lib.hid hm
    clear hm h
    have hz : (m == 0) = false := by simp; omega
    by_cases h3 : m ≤ 9223372036854775807 / b
    · rw [if_pos h3]
      have h4 := hle.1 h3
      clear hle
      go_enter Try.func14, Try.ntmps14
      go_wp2_with fail
      refine (rmany_any _ n b hn2).mono ?_
      rintro e w' ⟨rfl, rfl⟩
      rw [← Hm.out]
      go_wp2_with fail
      go_ret
      exact ⟨rfl, rfl⟩
    · rw [if_neg h3]
      clear hle
      go_enter Try.func14, Try.ntmps14
      go_wp2_with fail
      refine (rmany_any _ n b hn2).mono ?_
      rintro e w' ⟨rfl, rfl⟩
      rw [← Hm.out]
      go_wp2_with fail
      go_ret
      exact ⟨rfl, rfl⟩

theorem rspare_any (w : World) (n b : Int) (hn2 : n ≤ 9223372036854775807) (hb2 : b ≤ 9223372036854775807) : Calls Try.prog 16 #[.int .i64 n, .int .i64 b] w fun e w' => e = .returned (.int .i64 (spareS n b)) ∧ w = w' := by
  by_cases h : n < 1 ∨ b < 1
  · have hm : upS n b = 0 := by rw [upS, if_pos h]
    rw [spareS, if_pos h]
    clear h
    go_enter Try.func16, Try.ntmps16
    go_wp2_with fail
    refine (rup_any _ n b hn2 hb2).mono ?_
    rintro e w' ⟨rfl, rfl⟩
    go_wp2_with fail
    go_ret
    exact ⟨rfl, rfl⟩
  · have h1 : 1 ≤ n := by omega
    have h2 : 1 ≤ b := by omega
    clear h
    obtain ⟨u1, u2, u3⟩ := up_spare n b h1 h2 hn2
    have hm := mod_bounds n b h2
    obtain ⟨v, hv⟩ : ∃ v, v = upS n b := ⟨_, rfl⟩
    obtain ⟨s, hs⟩ : ∃ s, s = spareS n b := ⟨_, rfl⟩
    rw [← hv] at u1 u2 u3
    rw [← hs] at u1 u2 u3 ⊢
    have Hv := Lib.hid hv
    clear hs hv
    have hc : (v = 0 ∧ s = 0) ∨ (1 ≤ v ∧ n ≤ v ∧ s = v - n ∧ v ≤ 9223372036854775807) := by
      by_cases h3 : n % b = 0
      · have := u1 h3; omega
      · by_cases h4 : n ≤ 9223372036854775807 - (b - n % b)
        · have := u2 h3 h4; omega
        · have := u3 h3 h4; omega
    clear u1 u2 u3
    rcases hc with ⟨v1, s1⟩ | ⟨v1, v2, s1, hvm⟩
    · subst v1
      have Hs := Lib.hid s1
      clear s1
      go_enter Try.func16, Try.ntmps16
      go_wp2_with fail
      refine (rup_any _ n b hn2 hb2).mono ?_
      rintro e w' ⟨rfl, rfl⟩
      rw [← Hv.out]
      go_wp2_with fail
      go_ret
      exact ⟨by rw [Hs.out]; rfl, rfl⟩
    · have Hs := Lib.hid s1
      have hz : (v == 0) = false := by simp; omega
      clear s1
      go_enter Try.func16, Try.ntmps16
      go_wp2_with fail
      refine (rup_any _ n b hn2 hb2).mono ?_
      rintro e w' ⟨rfl, rfl⟩
      rw [← Hv.out]
      go_wp2_with fail
      refine (rup_any _ n b hn2 hb2).mono ?_
      rintro e w' ⟨rfl, rfl⟩
      rw [← Hv.out]
      go_wp2_with fail
      go_ret
      exact ⟨by rw [Hs.out]; rfl, rfl⟩

theorem awake_any (w : World) : Calls Try.prog 8 #[] w fun e w' => e = .returned (.bool true) ∧ w = w' := by
  go_enter Try.func8, Try.ntmps8
  go_wp2_with (first | (go_at_call 9; refine (many_any _ _ _ (by omega)).mono ?_; rintro e w' ⟨rfl, rfl⟩; simp [manyS]) | (go_at_call 13; refine (up_any _ _ _ (by omega) (by omega)).mono ?_; rintro e w' ⟨rfl, rfl⟩; simp [upS, manyS]) | (go_at_call 15; refine (spare_any _ _ _ (by omega) (by omega)).mono ?_; rintro e w' ⟨rfl, rfl⟩; simp [spareS]) | (go_at_call 11; refine (whole_any _ _ _ (by omega)).mono ?_; rintro e w' ⟨rfl, rfl⟩; simp [wholeS]))
  go_ret
  exact ⟨rfl, rfl⟩

theorem tells_any (w : World) (n b : Int) (hn2 : n ≤ 9223372036854775807) : Calls Try.prog 3 #[.int .i64 n, .int .i64 b] w fun e w' => e = .returned (.bool true) ∧ w = w' := by
  go_enter Try.func3, Try.ntmps3
  go_wp2_with fail
  refine (awake_any _).mono ?_
  rintro e w1 ⟨rfl, rfl⟩
  go_wp2_with (first | (go_at_call 9; refine (many_any _ n b hn2).mono ?_; rintro e w' ⟨rfl, rfl⟩) | (go_at_call 10; refine (rmany_any _ n b hn2).mono ?_; rintro e w' ⟨rfl, rfl⟩) | (go_at_call 11; refine (whole_any _ n b hn2).mono ?_; rintro e w' ⟨rfl, rfl⟩) | (go_at_call 12; refine (rwhole_any _ n b hn2).mono ?_; rintro e w' ⟨rfl, rfl⟩))
  go_ret
  exact ⟨by simp, rfl⟩

theorem lawUp_any (w : World) (n b : Int) (hn2 : n ≤ 9223372036854775807) (hb2 : b ≤ 9223372036854775807) : Calls Try.prog 4 #[.int .i64 n, .int .i64 b] w fun e w' => e = .returned (.bool true) ∧ w = w' := by
  go_enter Try.func4, Try.ntmps4
  go_wp2_with fail
  refine (awake_any _).mono ?_
  rintro e w1 ⟨rfl, rfl⟩
  go_wp2_with (first | (go_at_call 13; refine (up_any _ n b hn2 hb2).mono ?_; rintro e w' ⟨rfl, rfl⟩) | (go_at_call 14; refine (rup_any _ n b hn2 hb2).mono ?_; rintro e w' ⟨rfl, rfl⟩) | (go_at_call 15; refine (spare_any _ n b hn2 hb2).mono ?_; rintro e w' ⟨rfl, rfl⟩) | (go_at_call 16; refine (rspare_any _ n b hn2 hb2).mono ?_; rintro e w' ⟨rfl, rfl⟩))
  go_ret
  exact ⟨by simp, rfl⟩

theorem holds_facts (a b : Int) (ha : 1 ≤ a) (ha2 : a ≤ 4294967296) (hb : 1 ≤ b) (hb2 : b ≤ 4294967296) :
    a ≤ upS a b ∧ upS a b - b < a ∧ upS a b % b = 0 ∧ spareS a b < b ∧ spareS a b = upS a b - a ∧ manyS a b * b = upS a b ∧ upS a b ≤ 8589934592 ∧ 0 ≤ spareS a b ∧ 0 ≤ manyS a b ∧ manyS a b ≤ a := by
  obtain ⟨u1, u2, u3⟩ := up_spare a b ha hb (by omega)
  have hm := mod_bounds a b hb
  have hd := div_bounds (a - 1) b (by omega) hb
  have hle : manyS a b ≤ 9223372036854775807 / b ↔ manyS a b * b ≤ 9223372036854775807 := Int.le_ediv_iff_mul_le (by omega)
  have c : ¬ (a < 1 ∨ b < 1) := by omega
  have hk : manyS a b = (a - 1) / b + 1 := by rw [manyS, if_neg c]
  have hu : upS a b = if manyS a b ≤ 9223372036854775807 / b then manyS a b * b else 0 := by rw [upS, if_neg c]
  have hpos : 1 ≤ upS a b ∧ a ≤ upS a b ∧ upS a b - b < a ∧ spareS a b < b ∧ spareS a b = upS a b - a := by
    by_cases h3 : a % b = 0
    · have := u1 h3; omega
    · have := u2 h3 (by omega); omega
  have hmu : manyS a b * b = upS a b := by
    split at hu
    · exact hu.symm
    · omega
  refine ⟨hpos.2.1, hpos.2.2.1, ?_, hpos.2.2.2.1, hpos.2.2.2.2, hmu, by omega, by omega, by omega, by omega⟩
  rw [← hmu]
  exact Int.mul_emod_left _ _

theorem holds_any (w : World) (n d : Int) (hn : 0 ≤ n ∧ n ≤ 4294967295) (hd : 0 ≤ d ∧ d ≤ 4294967295) : Calls Try.prog 5 #[.int .u32 n, .int .u32 d] w fun e w' => e = .returned (.bool true) ∧ w = w' := by
  obtain ⟨f1, f2, f3, f4, f5, f6, f7, f8, f9, f10⟩ := holds_facts (1 + n) (1 + d) (by omega) (by omega) (by omega) (by omega)
  have e1 := fun w => up_any w (1 + n) (1 + d) (by omega) (by omega)
  have e2 := fun w => spare_any w (1 + n) (1 + d) (by omega) (by omega)
  have e3 := fun w => many_any w (1 + n) (1 + d) (by omega)
  obtain ⟨m, hm⟩ : ∃ m, m = upS (1 + n) (1 + d) := ⟨_, rfl⟩
  obtain ⟨s, hs⟩ : ∃ m, m = spareS (1 + n) (1 + d) := ⟨_, rfl⟩
  obtain ⟨k, hk⟩ : ∃ m, m = manyS (1 + n) (1 + d) := ⟨_, rfl⟩
  rw [← hm] at f1 f2 f3 f5 f6 f7 e1
  rw [← hs] at f4 f5 f8 e2
  rw [← hk] at f6 f9 f10 e3
  clear hm hs hk
  have E1 := Lib.hid e1
  have E2 := Lib.hid e2
  have E3 := Lib.hid e3
  have F5 : (s == m - (1 + n)) = true := beq_iff_eq.2 f5
  have F3 : (m % (1 + d) == 0) = true := beq_iff_eq.2 f3
  have F6 : (k * (1 + d) == m) = true := beq_iff_eq.2 f6
  have f6' : k * (1 + d) ≤ 8589934592 ∧ 0 ≤ k * (1 + d) := by omega
  clear e1 e2 e3 f5 f3 f6
  go_enter Try.func5, Try.ntmps5
  go_wp2_with fail
  refine (awake_any _).mono ?_
  rintro e w1 ⟨rfl, rfl⟩
  go_wp2_with (first | (go_at_call 13; refine (E1.out _).mono ?_; rintro e w' ⟨rfl, rfl⟩) | (go_at_call 15; refine (E2.out _).mono ?_; rintro e w' ⟨rfl, rfl⟩) | (go_at_call 9; refine (E3.out _).mono ?_; rintro e w' ⟨rfl, rfl⟩))
  go_ret
  exact ⟨by simp, rfl⟩

theorem whole_le (n b : Int) : 0 ≤ wholeS n b ∧ (wholeS n b ≤ n ∨ wholeS n b = 0) := by
  unfold wholeS
  split
  · omega
  · have := div_bounds n b (by omega) (by omega)
    omega

theorem lawWhole_any (w : World) (n b : Int) (hn2 : n ≤ 9223372036854775807) (hb2 : b ≤ 9223372036854775807) : Calls Try.prog 6 #[.int .i64 n, .int .i64 b] w fun e w' => e = .returned (.bool true) ∧ w = w' := by
  have e1 := fun w => many_any w n b hn2
  have e2 := fun w => whole_any w n b hn2
  by_cases h : n < 1 ∨ b < 1
  · have e3 := fun w => up_any w n b hn2 hb2
    have e4 := fun w => spare_any w n b hn2 hb2
    simp only [show manyS n b = 0 from by rw [manyS, if_pos h]] at e1
    simp only [show wholeS n b = 0 from by rw [wholeS, if_pos h]] at e2
    simp only [show upS n b = 0 from by rw [upS, if_pos h]] at e3
    simp only [show spareS n b = 0 from by rw [spareS, if_pos h]] at e4
    have E1 := Lib.hid e1
    have E2 := Lib.hid e2
    have E3 := Lib.hid e3
    have E4 := Lib.hid e4
    clear e1 e2 e3 e4
    by_cases h1 : n < 1
    all_goals
      have h2 : n < 1 ∨ 1 ≤ n ∧ b < 1 := by omega
      clear h
      first
      | (have h3 : 1 ≤ n := by omega
         have h4 : b < 1 := by omega
         clear h2 h1)
      | clear h2
      go_enter Try.func6, Try.ntmps6
      go_wp2_with fail
      refine (awake_any _).mono ?_
      rintro e w1 ⟨rfl, rfl⟩
      go_wp2_with (first | (go_at_call 9; refine (E1.out _).mono ?_; rintro e w' ⟨rfl, rfl⟩) | (go_at_call 11; refine (E2.out _).mono ?_; rintro e w' ⟨rfl, rfl⟩) | (go_at_call 13; refine (E3.out _).mono ?_; rintro e w' ⟨rfl, rfl⟩) | (go_at_call 15; refine (E4.out _).mono ?_; rintro e w' ⟨rfl, rfl⟩))
      go_ret
      exact ⟨by simp, rfl⟩
  · have hs := many_split n b (by omega) (by omega)
    have hw : wholeS n b = n / b := by rw [wholeS, if_neg h]
    have hm := mod_bounds n b (by omega)
    have hd := div_bounds n b (by omega) (by omega)
    have h1 : 1 ≤ n := by omega
    have h2 : 1 ≤ b := by omega
    clear h
    simp only [hs] at e1
    simp only [hw] at e2
    have E2 := Lib.hid e2
    clear e2 hs hw
    by_cases h3 : 0 < n % b
    · simp only [if_pos h3] at e1
      have E1 := Lib.hid e1
      clear e1
      have k1 : (n % b == 0) = false := by simp; omega
      have k2 : (n % b != 0) = true := by simp; omega
      have k3 : n / b + 1 - n / b = 1 := by omega
      go_enter Try.func6, Try.ntmps6
      go_wp2_with fail
      refine (awake_any _).mono ?_
      rintro e w1 ⟨rfl, rfl⟩
      go_wp2_with (first | (go_at_call 9; refine (E1.out _).mono ?_; rintro e w' ⟨rfl, rfl⟩) | (go_at_call 11; refine (E2.out _).mono ?_; rintro e w' ⟨rfl, rfl⟩))
      go_ret
      exact ⟨by simp, rfl⟩
    · simp only [if_neg h3] at e1
      have E1 := Lib.hid e1
      clear e1
      have k1 : (n % b == 0) = true := by simp; omega
      have k2 : (n % b != 0) = false := by simp; omega
      have k3 : n / b - n / b = 0 := by omega
      go_enter Try.func6, Try.ntmps6
      go_wp2_with fail
      refine (awake_any _).mono ?_
      rintro e w1 ⟨rfl, rfl⟩
      go_wp2_with (first | (go_at_call 9; refine (E1.out _).mono ?_; rintro e w' ⟨rfl, rfl⟩) | (go_at_call 11; refine (E2.out _).mono ?_; rintro e w' ⟨rfl, rfl⟩))
      go_ret
      exact ⟨by simp, rfl⟩

theorem manyS_eq (x p : Int) (hx : 0 ≤ x) (hp : 1 ≤ p) : manyS x p = (x + p - 1) / p := by
  unfold manyS
  split
  · have : x = 0 := by omega
    subst this
    rw [Int.ediv_eq_zero_of_lt (by omega) (by omega)]
  · rw [show x + p - 1 = (x - 1) + 1 * p from by omega, Int.add_mul_ediv_right _ _ (by omega)]
theorem wholeS_eq (x p : Int) (hx : 0 ≤ x) (hp : 1 ≤ p) : wholeS x p = x / p := by
  unfold wholeS
  split
  · have : x = 0 := by omega
    subst this
    simp
  · rfl
/-- so many parts hold the number, one less doesn't -/
theorem many_holds (x p : Int) (hx : 0 ≤ x) (hp : 1 ≤ p) : x ≤ manyS x p * p ∧ manyS x p * p < x + p ∧ 0 ≤ manyS x p := by
  rw [manyS_eq x p hx hp]
  have e := Int.mul_ediv_add_emod (x + p - 1) p
  have hm := mod_bounds (x + p - 1) p hp
  have := Int.mul_comm p ((x + p - 1) / p)
  have := Int.ediv_nonneg (show 0 ≤ x + p - 1 by omega) (show 0 ≤ p by omega)
  omega
theorem le_of_mul (a b p : Int) (hp : 1 ≤ p) (h : a * p < (b + 1) * p) : a ≤ b := by
  have := Int.lt_of_mul_lt_mul_right h (by omega)
  omega
theorem joins_facts (x y p : Int) (hx : 0 ≤ x) (hy : 0 ≤ y) (hp : 1 ≤ p) :
    manyS x p ≤ manyS (x + y) p ∧ manyS (x + y) p ≤ manyS x p + manyS y p ∧ wholeS x p + wholeS y p ≤ wholeS (x + y) p := by
  have a1 := many_holds x p hx hp
  have a2 := many_holds y p hy hp
  have a3 := many_holds (x + y) p (by omega) hp
  refine ⟨le_of_mul _ _ p hp ?_, le_of_mul _ _ p hp ?_, ?_⟩
  · rw [Int.add_mul, Int.one_mul]; omega
  · rw [Int.add_mul, Int.add_mul, Int.one_mul]; omega
  · rw [wholeS_eq x p hx hp, wholeS_eq y p hy hp, wholeS_eq _ p (by omega) hp]
    refine (Int.le_ediv_iff_mul_le (by omega)).2 ?_
    have := Int.ediv_mul_le x (show p ≠ 0 by omega)
    have := Int.ediv_mul_le y (show p ≠ 0 by omega)
    rw [Int.add_mul]
    omega

theorem many_le (n b : Int) (hn : 0 ≤ n) : 0 ≤ manyS n b ∧ manyS n b ≤ n := by
  unfold manyS
  split
  · omega
  · have := div_bounds (n - 1) b (by omega) (by omega)
    omega

theorem joins_any (w : World) (a b c : Int) (ha : 0 ≤ a ∧ a ≤ 4294967295) (hb : 0 ≤ b ∧ b ≤ 4294967295) (hc : 0 ≤ c ∧ c ≤ 65535) : Calls Try.prog 7 #[.int .u32 a, .int .u32 b, .int .u16 c] w fun e w' => e = .returned (.bool true) ∧ w = w' := by
  obtain ⟨f1, f2, f3⟩ := joins_facts a b (1 + c) (by omega) (by omega) (by omega)
  have m1 := many_le a (1 + c) (by omega)
  have m2 := many_le b (1 + c) (by omega)
  have m3 := many_le (a + b) (1 + c) (by omega)
  have w1 := whole_le a (1 + c)
  have w2 := whole_le b (1 + c)
  have e1 := fun w => many_any w a (1 + c) (by omega)
  have e2 := fun w => many_any w b (1 + c) (by omega)
  have e3 := fun w => many_any w (a + b) (1 + c) (by omega)
  have g1 := fun w => whole_any w a (1 + c) (by omega)
  have g2 := fun w => whole_any w b (1 + c) (by omega)
  have g3 := fun w => whole_any w (a + b) (1 + c) (by omega)
  have E1 := Lib.hid e1
  have E2 := Lib.hid e2
  have E3 := Lib.hid e3
  have G1 := Lib.hid g1
  have G2 := Lib.hid g2
  have G3 := Lib.hid g3
  clear e1 e2 e3 g1 g2 g3
  go_enter Try.func7, Try.ntmps7
  go_wp2_with fail
  refine (awake_any _).mono ?_
  rintro e w1 ⟨rfl, rfl⟩
  go_wp2_with (first | (go_at_call 9; with_reducible refine (E1.out _).mono ?_; rintro e w' ⟨rfl, rfl⟩) | (go_at_call 9; with_reducible refine (E2.out _).mono ?_; rintro e w' ⟨rfl, rfl⟩) | (go_at_call 9; with_reducible refine (E3.out _).mono ?_; rintro e w' ⟨rfl, rfl⟩) | (go_at_call 11; with_reducible refine (G1.out _).mono ?_; rintro e w' ⟨rfl, rfl⟩) | (go_at_call 11; with_reducible refine (G2.out _).mono ?_; rintro e w' ⟨rfl, rfl⟩) | (go_at_call 11; with_reducible refine (G3.out _).mono ?_; rintro e w' ⟨rfl, rfl⟩))
  go_ret
  exact ⟨by simp, rfl⟩
end Go.Proofs.Ytonanghhepadkaa
