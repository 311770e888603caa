/- The plain law of the order of floats: two words that are numbers stand as their signed rungs stand. -/
import Derived.WalkKit
import Derived.WalkLawsBesides
namespace Go.Proofs.Ytdjlklkmobpohaa
open Ieee

def rg (b : Nat) : Nat := b % 9223372036854775808
def isN (b : Nat) : Prop := 9218868437227405312 < rg b
instance (b : Nat) : Decidable (isN b) := inferInstanceAs (Decidable (_ < _))
def sr (b : Nat) : Int := if 9223372036854775808 ≤ b then -(rg b : Int) else (rg b : Int)
def neg (b : Nat) : Bool := b / 9223372036854775808 % 2 == 1
def mg (r : Nat) : Nat := if r < 4503599627370496 then r else 4503599627370496 + r % 4503599627370496
def ex (r : Nat) : Nat := r / 4503599627370496 - 1

theorem read_nan (b : Nat) (h : isN b) : double.read b = .nan (neg b) (rg b - 9218868437227405312) := by
  unfold isN at h
  unfold Format.read
  simp only [show double.signWeight = 9223372036854775808 from by decide +kernel, show double.binade = 4503599627370496 from by decide +kernel, show double.infRung = 9218868437227405312 from by decide +kernel, ← show rg b = b % 9223372036854775808 from rfl]
  rw [if_neg (by omega), if_neg (by omega), if_neg (by omega)]
  rfl
theorem read_inf (b : Nat) (h : rg b = 9218868437227405312) : double.read b = .infinity (neg b) := by
  unfold Format.read
  simp only [show double.signWeight = 9223372036854775808 from by decide +kernel, show double.binade = 4503599627370496 from by decide +kernel, show double.infRung = 9218868437227405312 from by decide +kernel, ← show rg b = b % 9223372036854775808 from rfl]
  rw [if_neg (by omega), if_neg (by omega), if_pos h]
  rfl
theorem read_num (b : Nat) (h : rg b < 9218868437227405312) : double.read b = .number (neg b) (mg (rg b)) (-1074 + (ex (rg b) : Nat)) := by
  unfold Format.read mg ex
  simp only [show double.signWeight = 9223372036854775808 from by decide +kernel, show double.binade = 4503599627370496 from by decide +kernel, show double.infRung = 9218868437227405312 from by decide +kernel, ← show rg b = b % 9223372036854775808 from rfl, show double.leastPlace = -1074 from by decide +kernel]
  by_cases h1 : rg b < 4503599627370496
  · rw [if_pos h1, if_pos h1, Nat.div_eq_of_lt h1]
    rfl
  · rw [if_neg h1, if_neg h1, if_pos h]
    rfl

def MM (r : Nat) : Nat := mg r * 2 ^ ex r
theorem mm_succ (r : Nat) : MM r < MM (r + 1) := by
  unfold MM mg ex
  by_cases h1 : r + 1 < 4503599627370496
  · rw [if_pos (by omega), if_pos h1, Nat.div_eq_of_lt h1, Nat.div_eq_of_lt (by omega)]
    omega
  · by_cases h2 : r + 1 = 4503599627370496
    · rw [if_pos (by omega), if_neg h1, h2, Nat.div_eq_of_lt (by omega)]
      show r * 1 < 4503599627370496 * 1
      omega
    · rw [if_neg (by omega), if_neg h1]
      have hp : 0 < 2 ^ (r / 4503599627370496 - 1) := Nat.two_pow_pos _
      by_cases h3 : r % 4503599627370496 + 1 < 4503599627370496
      · rw [show (r + 1) / 4503599627370496 = r / 4503599627370496 from by omega, show (r + 1) % 4503599627370496 = r % 4503599627370496 + 1 from by omega]
        exact Nat.mul_lt_mul_of_pos_right (by omega) hp
      · rw [show (r + 1) / 4503599627370496 - 1 = r / 4503599627370496 - 1 + 1 from by omega, show (r + 1) % 4503599627370496 = 0 from by omega, Nat.pow_succ, Nat.add_zero, Nat.mul_comm (2 ^ _) 2, ← Nat.mul_assoc]
        exact Nat.mul_lt_mul_of_pos_right (by omega) hp
theorem mm_mono {r s : Nat} (h : r < s) : MM r < MM s := by
  induction s with
  | zero => omega
  | succ s ih =>
    by_cases e : r = s
    · subst e; exact mm_succ r
    · exact Nat.lt_trans (ih (by omega)) (mm_succ s)
theorem mm_le {r s : Nat} (h : r ≤ s) : MM r ≤ MM s := by
  rcases Nat.lt_or_eq_of_le h with h | rfl
  · exact Nat.le_of_lt (mm_mono h)
  · exact Nat.le_refl _

theorem compare_mul (k : Nat) (hk : 0 < k) (a b : Int) : compare (a * k) (b * k) = compare a b := by
  have hk' : (0 : Int) < k := by omega
  simp only [compare, compareOfLessAndEq]
  by_cases h : a < b
  · rw [if_pos h, if_pos (Int.mul_lt_mul_of_pos_right h hk')]
  · rw [if_neg h, if_neg (by have := Int.mul_le_mul_of_nonneg_right (Int.not_lt.1 h) (Int.le_of_lt hk'); omega)]
    by_cases e : a = b
    · subst e; rw [if_pos rfl, if_pos rfl]
    · rw [if_neg e, if_neg (fun h' => e (Int.eq_of_mul_eq_mul_right (by omega) h'))]

theorem signed_eq (s : Bool) (m up : Nat) : signed s m up = (if s then -1 else 1) * ((m * 2 ^ up : Nat) : Int) := by
  unfold signed
  rw [Nat.shiftLeft_eq]
  cases s <;> simp

theorem cmp_congr (a b c d : Int) (h1 : a < b ↔ c < d) (h2 : a = b ↔ c = d) : compare a b = compare c d := by
  simp only [compare, compareOfLessAndEq, h1, h2]
def sg (s : Bool) (r : Nat) : Int := if s then -(r : Int) else (r : Int)
theorem compare_mm (s t : Bool) (r q : Nat) : compare (sg s (MM r)) (sg t (MM q)) = compare (sg s r) (sg t q) := by
  have h0 : MM 0 = 0 := by simp [MM, mg]
  have key : ∀ a b : Nat, (MM a < MM b ↔ a < b) := fun a b => ⟨fun h => by
    rcases Nat.lt_or_ge a b with h1 | h1
    · exact h1
    · have := mm_le h1; omega, mm_mono⟩
  have keq : ∀ a b : Nat, (MM a = MM b ↔ a = b) := fun a b => ⟨fun h => by
    have h1 := key a b; have h2 := key b a; omega, fun h => by rw [h]⟩
  have a1 := key r q
  have a2 := key q r
  have a3 := keq r q
  have b1 := key 0 r
  have b2 := key 0 q
  rw [h0] at b1 b2
  cases s <;> cases t <;> simp only [sg, if_true, if_false, Bool.false_eq_true] <;> refine cmp_congr _ _ _ _ ?_ ?_ <;> omega

theorem neg_eq (b : Nat) (h : b < 18446744073709551616) : neg b = decide (9223372036854775808 ≤ b) := by
  unfold neg
  by_cases h1 : 9223372036854775808 ≤ b
  · rw [show b / 9223372036854775808 = 1 from by omega]; simpa using h1
  · rw [show b / 9223372036854775808 = 0 from by omega]; simp; omega
theorem sr_sg (b : Nat) (h : b < 18446744073709551616) : sr b = sg (neg b) (rg b) := by
  rw [neg_eq b h]; unfold sr sg
  by_cases h1 : 9223372036854775808 ≤ b <;> simp [h1]

theorem order_nan_left (x y : Nat) (h : isN x) : double.order x y = none := by
  unfold Format.order
  rw [read_nan x h]
  rfl
theorem order_nan_right (x y : Nat) (h : isN y) : double.order x y = none := by
  unfold Format.order
  rw [read_nan y h]
  cases double.read x <;> rfl
theorem order_num (x y : Nat) (hx : x < 18446744073709551616) (hy : y < 18446744073709551616) (nx : ¬ isN x) (ny : ¬ isN y) : double.order x y = some (compare (sr x) (sr y)) := by
  unfold isN at nx ny
  rw [sr_sg x hx, sr_sg y hy]
  unfold Format.order
  rcases Nat.lt_or_eq_of_le (Nat.not_lt.1 nx) with h1 | h1 <;> rcases Nat.lt_or_eq_of_le (Nat.not_lt.1 ny) with h2 | h2
  · rw [read_num x h1, read_num y h2, ← compare_mm]
    simp only [Datum.order]
    obtain ⟨m, hm⟩ : ∃ m, m = min (ex (rg x)) (ex (rg y)) := ⟨_, rfl⟩
    have e : min (-1074 + (ex (rg x) : Int)) (-1074 + (ex (rg y) : Int)) = -1074 + (m : Int) := by omega
    rw [e, show (-1074 + (ex (rg x) : Int) - (-1074 + (m : Int))).toNat = ex (rg x) - m from by omega, show (-1074 + (ex (rg y) : Int) - (-1074 + (m : Int))).toNat = ex (rg y) - m from by omega,
      ← compare_mul (2 ^ m) (Nat.two_pow_pos _), signed_eq, signed_eq]
    have f : ∀ (s : Bool) (r : Nat), m ≤ ex r → (if s then (-1 : Int) else 1) * ((mg r * 2 ^ (ex r - m) : Nat) : Int) * ((2 ^ m : Nat) : Int) = sg s (MM r) := by
      intro s r hr
      have : mg r * 2 ^ (ex r - m) * 2 ^ m = MM r := by rw [Nat.mul_assoc, ← Nat.pow_add, Nat.sub_add_cancel hr]; rfl
      rw [Int.mul_assoc, ← Int.natCast_mul, this]
      cases s <;> simp [sg]
    rw [f _ _ (by omega), f _ _ (by omega)]
  · rw [read_num x h1, read_inf y h2]
    simp only [Datum.order]
    congr 1
    simp only [compare, compareOfLessAndEq, sg]
    cases neg y <;> cases neg x <;> simp <;> (first | (intro h; omega) | (rw [if_pos (by omega)]) | (rw [if_neg (by omega), if_neg (by omega)]))
  · rw [read_inf x h1, read_num y h2]
    simp only [Datum.order]
    congr 1
    simp only [compare, compareOfLessAndEq, sg]
    cases neg y <;> cases neg x <;> simp <;> (first | (intro h; omega) | (rw [if_pos (by omega)]) | (rw [if_neg (by omega), if_neg (by omega)]))
  · rw [read_inf x h1, read_inf y h2]
    simp only [Datum.order]
    congr 1
    rw [h1, h2]
    cases neg x <;> cases neg y <;> decide
end Go.Proofs.Ytdjlklkmobpohaa
