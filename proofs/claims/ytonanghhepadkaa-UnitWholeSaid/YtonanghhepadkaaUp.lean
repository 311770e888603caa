/- Contracts of unit.Up and unit.Spare and of the reference's four functions: for all whole numbers of int, in every world. -/
import Derived.Test.YtonanghhepadkaaUnit
namespace Go.Proofs.Ytonanghhepadkaa
open Go.RowKit

def spareS (n b : Int) : Int := if n < 1 ∨ b < 1 then 0 else if n % b = 0 then 0 else if n ≤ 9223372036854775807 - (b - n % b) then b - n % b else 0
def upS (n b : Int) : Int := if n < 1 ∨ b < 1 then 0 else if manyS n b ≤ 9223372036854775807 / b then manyS n b * b else 0

theorem many_split (n b : Int) (hn : 1 ≤ n) (hb : 1 ≤ b) : manyS n b = if 0 < n % b then n / b + 1 else n / b := by
  rw [manyS, if_neg (by omega)]
  have hm := mod_bounds n b hb
  have e := Int.mul_ediv_add_emod n b
  split
  · have h2 : (n - 1) / b = n / b := by
      rw [Int.ediv_eq_iff_of_pos (by omega)]
      have := Int.mul_comm b (n / b)
      constructor
      · omega
      · have h3 : (n / b + 1) * b = n / b * b + b := by rw [Int.add_mul, Int.one_mul]
        omega
    omega
  · have h2 : (n - 1) / b = n / b - 1 := by
      rw [Int.ediv_eq_iff_of_pos (by omega)]
      have := Int.mul_comm b (n / b)
      have h3 : (n / b - 1) * b = n / b * b - b := by rw [Int.sub_mul, Int.one_mul]
      have h4 : (n / b - 1 + 1) * b = n / b * b := by rw [Int.sub_add_cancel]
      constructor <;> omega
    omega

/-- the multiple is the number and what is left -/
theorem up_spare (n b : Int) (hn : 1 ≤ n) (hb : 1 ≤ b) (hn2 : n ≤ 9223372036854775807) :
    (n % b = 0 → upS n b = n ∧ spareS n b = 0) ∧ (n % b ≠ 0 → n ≤ 9223372036854775807 - (b - n % b) → upS n b = n + (b - n % b) ∧ spareS n b = b - n % b) ∧ (n % b ≠ 0 → ¬ n ≤ 9223372036854775807 - (b - n % b) → upS n b = 0 ∧ spareS n b = 0) := by
  have hm := mod_bounds n b hb
  have e := Int.mul_ediv_add_emod n b
  have ec := Int.mul_comm b (n / b)
  have e1 : (n / b + 1) * b = n / b * b + b := by rw [Int.add_mul, Int.one_mul]
  have hle : ∀ m : Int, m ≤ 9223372036854775807 / b ↔ m * b ≤ 9223372036854775807 := fun m => Int.le_ediv_iff_mul_le (by omega)
  have c : ¬ (n < 1 ∨ b < 1) := by omega
  refine ⟨fun h => ?_, fun h h2 => ?_, fun h h2 => ?_⟩
  · rw [upS, if_neg c, spareS, if_neg c, if_pos h, many_split n b hn hb, if_neg (show ¬ 0 < n % b by omega), if_pos ((hle _).2 (by omega))]
    exact ⟨by omega, rfl⟩
  · rw [upS, if_neg c, spareS, if_neg c, if_neg h, if_pos h2, many_split n b hn hb, if_pos (show 0 < n % b by omega), if_pos ((hle _).2 (by omega))]
    exact ⟨by omega, rfl⟩
  · rw [upS, if_neg c, spareS, if_neg c, if_neg h, if_neg h2, many_split n b hn hb, if_pos (show 0 < n % b by omega), if_neg (fun k => by have := (hle _).1 k; omega)]
    exact ⟨rfl, rfl⟩

theorem spare_any (w : World) (n b : Int) (hn2 : n ≤ 9223372036854775807) (hb2 : b ≤ 9223372036854775807) : Calls Try.prog 15 #[.int .i64 n, .int .i64 b] w fun e w' => e = .returned (.int .i64 (spareS n b)) ∧ w = w' := by
  by_cases h : n < 1 ∨ b < 1
  · rw [spareS, if_pos h]
    have H := Lib.hid h
    clear h
    go_enter Try.func15, Try.ntmps15
    go_wp2_with fail
    refine (none_yes _ n b H.out).mono ?_
    rintro e w' ⟨rfl, rfl⟩
    go_wp2_with fail
    go_ret
    exact ⟨rfl, rfl⟩
  · rw [spareS, if_neg h]
    have h1 : 1 ≤ n := by omega
    have h2 : 1 ≤ b := by omega
    clear h
    have hm := mod_bounds n b h2
    by_cases h3 : n % b = 0
    · rw [if_pos h3]
      have k3 : (n % b == 0) = true := by simp [h3]
      clear h3
      go_enter Try.func15, Try.ntmps15
      go_wp2_with fail
      refine (none_no _ n b h1 h2).mono ?_
      rintro e w' ⟨rfl, rfl⟩
      go_wp2_with fail
      go_ret
      exact ⟨rfl, rfl⟩
    · rw [if_neg h3]
      have k3 : (n % b == 0) = false := by simp [h3]
      clear h3
      by_cases h4 : n ≤ 9223372036854775807 - (b - n % b)
      · rw [if_pos h4]
        go_enter Try.func15, Try.ntmps15
        go_wp2_with fail
        refine (none_no _ n b h1 h2).mono ?_
        rintro e w' ⟨rfl, rfl⟩
        go_wp2_with fail
        go_ret
        exact ⟨rfl, rfl⟩
      · rw [if_neg h4]
        go_enter Try.func15, Try.ntmps15
        go_wp2_with fail
        refine (none_no _ n b h1 h2).mono ?_
        rintro e w' ⟨rfl, rfl⟩
        go_wp2_with fail
        go_ret
        exact ⟨rfl, rfl⟩

theorem up_any (w : World) (n b : Int) (hn2 : n ≤ 9223372036854775807) (hb2 : b ≤ 9223372036854775807) : Calls Try.prog 13 #[.int .i64 n, .int .i64 b] w fun e w' => e = .returned (.int .i64 (upS n b)) ∧ w = w' := by
  by_cases h : n < 1 ∨ b < 1
  · rw [upS, if_pos h]
    have H := Lib.hid h
    clear h
    go_enter Try.func13, Try.ntmps13
    go_wp2_with fail
    refine (spare_any _ n b hn2 hb2).mono ?_
    rintro e w' ⟨rfl, rfl⟩
    go_wp2_with fail
    refine (none_yes _ n b H.out).mono ?_
    rintro e w' ⟨rfl, rfl⟩
    go_wp2_with fail
    go_ret
    exact ⟨rfl, rfl⟩
  · have h1 : 1 ≤ n := by omega
    have h2 : 1 ≤ b := by omega
    clear h
    have hm := mod_bounds n b h2
    obtain ⟨u1, u2, u3⟩ := up_spare n b h1 h2 hn2
    obtain ⟨v, hv⟩ : ∃ v, v = upS n b := ⟨_, rfl⟩
    obtain ⟨s, hs⟩ : ∃ s, s = spareS n b := ⟨_, rfl⟩
    rw [← hv] at u1 u2 u3 ⊢
    rw [← hs] at u1 u2 u3
    have Hs := Lib.hid hs
    clear hs hv
    by_cases h3 : n % b = 0
    · obtain ⟨v1, s1⟩ := u1 h3
      have k3 : (n % b == 0) = true := by simp [h3]
      subst v1
      rw [s1] at Hs
      clear u1 u2 u3 h3 s1
      go_enter Try.func13, Try.ntmps13
      go_wp2_with fail
      refine (spare_any _ v b hn2 hb2).mono ?_
      rintro e w' ⟨rfl, rfl⟩
      rw [← Hs.out]
      go_wp2_with fail
      refine (none_no _ v b h1 h2).mono ?_
      rintro e w' ⟨rfl, rfl⟩
      go_wp2_with fail
      go_ret
      exact ⟨by simp, rfl⟩
    · by_cases h4 : n ≤ 9223372036854775807 - (b - n % b)
      · obtain ⟨v1, s1⟩ := u2 h3 h4
        have k3 : (s == 0) = false := by simp; omega
        have hs1 : 1 ≤ s := by omega
        have hs2 : n ≤ 9223372036854775807 - s := by omega
        have Hv : Hid (v = n + s) := by show v = _; omega
        clear u1 u2 u3 h3 v1 s1 h4
        go_enter Try.func13, Try.ntmps13
        go_wp2_with fail
        refine (spare_any _ n b hn2 hb2).mono ?_
        rintro e w' ⟨rfl, rfl⟩
        rw [← Hs.out]
        go_wp2_with fail
        refine (none_no _ n b h1 h2).mono ?_
        rintro e w' ⟨rfl, rfl⟩
        go_wp2_with fail
        go_ret
        exact ⟨by rw [Hv.out]; simp, rfl⟩
      · obtain ⟨v1, s1⟩ := u3 h3 h4
        have k3 : (n % b != 0) = true := by simp [h3]
        subst v1
        rw [s1] at Hs
        clear u1 u2 u3 h3 s1
        go_enter Try.func13, Try.ntmps13
        go_wp2_with fail
        refine (spare_any _ n b hn2 hb2).mono ?_
        rintro e w' ⟨rfl, rfl⟩
        rw [← Hs.out]
        go_wp2_with fail
        refine (none_no _ n b h1 h2).mono ?_
        rintro e w' ⟨rfl, rfl⟩
        go_wp2_with fail
        go_ret
        exact ⟨by simp, rfl⟩
end Go.Proofs.Ytonanghhepadkaa
