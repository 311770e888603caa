/- The plain laws of the spans that chain.Cut answers: how many they are, and how they join. -/
import Derived.Test.YteipffehpddmjaaCut
import Derived.Test.YteipffehpddmjaaChainAll
namespace Go.Proofs.Yteipffehpddmjaa
open Go.RowKit

theorem cut_length (a n p : Int) : (cutS a n p).length ≤ 16777216 := by
  unfold cutS
  split
  · simp
  · have := spans_length a n p (by omega) (by omega)
    omega

theorem head_n (a n p : Int) : (headS a n p).n = a / p := rfl
theorem head_at (a n p : Int) : (headS a n p).at_ = a % p := rfl
theorem head_split (a n p : Int) : (headS a n p).n * p + (headS a n p).at_ = a := by
  have e := Int.mul_ediv_add_emod a p
  have := Int.mul_comm p (a / p)
  show a / p * p + a % p = a
  omega
theorem mod_next (a p : Int) : (a + (p - a % p)) % p = 0 := by
  have e := Int.mul_ediv_add_emod a p
  have h : a + (p - a % p) = p * (a / p + 1) := by rw [Int.mul_add, Int.mul_one]; omega
  rw [h, Int.mul_emod_right]
theorem div_next (a p : Int) (hp : 1 ≤ p) : (a + (p - a % p)) / p = a / p + 1 := by
  have e := Int.mul_ediv_add_emod a p
  have h : a + (p - a % p) = p * (a / p + 1) := by rw [Int.mul_add, Int.mul_one]; omega
  rw [h, Int.mul_ediv_cancel_left _ (by omega)]

/-- how many spans there are -/
theorem spansF_count (p : Int) (hp : 1 ≤ p) : ∀ (k : Nat) (a n : Int), 0 < n → n ≤ k → ((spansS a n p).length : Int) = (a + n - 1) / p - a / p + 1 := by
  intro k
  induction k with
  | zero => intro a n h1 h2; omega
  | succ k ih =>
    intro a n h1 h2
    have hl := head_len a n p h1 hp
    have hm := mod_bounds a p hp
    rw [spans_cons a n p h1 hp, List.length_cons]
    by_cases hlt : p - a % p < n
    · have e : (headS a n p).len = p - a % p := if_pos hlt
      rw [e] at hl ⊢
      have := ih (a + (p - a % p)) (n - (p - a % p)) (by omega) (by omega)
      rw [div_next a p hp, show a + (p - a % p) + (n - (p - a % p)) - 1 = a + n - 1 from by omega] at this
      omega
    · have e : (headS a n p).len = n := if_neg hlt
      rw [e, show n - n = 0 from by omega, spans_nil _ 0 p (by omega)]
      have e2 := Int.mul_ediv_add_emod a p
      have h3 : (a + n - 1) / p = a / p := by
        rw [Int.ediv_eq_iff_of_pos (by omega)]
        have := Int.mul_comm p (a / p)
        have h4 : (a / p + 1) * p = a / p * p + p := by rw [Int.add_mul, Int.one_mul]
        constructor <;> omega
      rw [h3]
      simp
theorem spans_count (a n p : Int) (hn : 0 < n) (hp : 1 ≤ p) : ((spansS a n p).length : Int) = (a + n - 1) / p - a / p + 1 := spansF_count p hp n.toNat a n hn (by omega)

theorem spans_few (a n p : Int) (hn : 0 ≤ n) (hp : 1 ≤ p) : ((spansS a n p).length : Int) ≤ manyS n p + 1 := by
  by_cases h : 0 < n
  · rw [spans_count a n p h hp, manyS, if_neg (by omega)]
    have e1 := Int.mul_ediv_add_emod a p
    have e2 := Int.mul_ediv_add_emod (n - 1) p
    have m1 := mod_bounds a p hp
    have m2 := mod_bounds (n - 1) p hp
    have h1 : (a + n - 1) / p ≤ a / p + (n - 1) / p + 1 := by
      refine Int.le_of_lt_add_one ((Int.ediv_lt_iff_lt_mul (by omega)).2 ?_)
      have h4 : (a / p + (n - 1) / p + 1 + 1) * p = p * (a / p) + p * ((n - 1) / p) + p + p := by
        rw [Int.add_mul, Int.add_mul, Int.add_mul, Int.one_mul, Int.mul_comm (a / p), Int.mul_comm ((n - 1) / p)]
      omega
    omega
  · rw [spans_nil a n p (by omega), manyS, if_pos (by omega)]
    simp

theorem spansF_join (m p : Int) (hp : 1 ≤ p) (hm : 0 < m) : ∀ (k : Nat) (a n : Int), 0 ≤ n → n ≤ k → (a + n) % p = 0 ∨ n = 0 → spansS a n p ++ spansS (a + n) m p = spansS a (n + m) p := by
  intro k
  induction k with
  | zero =>
    intro a n h1 h2 _
    have : n = 0 := by omega
    subst this
    rw [spans_nil a 0 p (by omega), Int.add_zero, Int.zero_add, List.nil_append]
  | succ k ih =>
    intro a n h1 h2 h3
    by_cases h0 : n = 0
    · subst h0
      rw [spans_nil a 0 p (by omega), Int.add_zero, Int.zero_add, List.nil_append]
    · have hl := head_len a n p (by omega) hp
      have hmo := mod_bounds a p hp
      have h3' : (a + n) % p = 0 := by omega
      rw [spans_cons a n p (by omega) hp, spans_cons a (n + m) p (by omega) hp]
      by_cases hlt : p - a % p < n
      · have e1 : headS a n p = ⟨a / p, a % p, p - a % p⟩ := by unfold headS; rw [if_pos hlt]
        have e2 : headS a (n + m) p = ⟨a / p, a % p, p - a % p⟩ := by unfold headS; rw [if_pos (by omega)]
        rw [e1, e2]
        simp only
        rw [List.cons_append, ← show n - (p - a % p) + m = n + m - (p - a % p) from by omega, ← ih (a + (p - a % p)) (n - (p - a % p)) (by omega) (by omega) (.inl (by rw [show a + (p - a % p) + (n - (p - a % p)) = a + n from by omega]; exact h3')),
          show a + (p - a % p) + (n - (p - a % p)) = a + n from by omega]
      · have e1 : headS a n p = ⟨a / p, a % p, n⟩ := by unfold headS; rw [if_neg hlt]
        have hn : n = p - a % p := by
          have h5 : (a % p + n) % p = 0 := by
            have := Int.emod_add_emod a p n
            rw [this]; exact h3'
          by_cases h6 : a % p + n < p
          · rw [Int.emod_eq_of_lt (by omega) h6] at h5; omega
          · omega
        have e2 : headS a (n + m) p = ⟨a / p, a % p, n⟩ := by unfold headS; rw [if_pos (by omega), ← hn]
        rw [e1, e2]
        simp only
        rw [spans_nil _ (n - n) p (by omega), show n + m - n = m from by omega]
        rfl
theorem spans_join (a n m p : Int) (hp : 1 ≤ p) (hn : 0 ≤ n) (hm : 0 ≤ m) (h : (a + n) % p = 0 ∨ n = 0 ∨ m = 0) : spansS a n p ++ spansS (a + n) m p = spansS a (n + m) p := by
  by_cases h0 : m = 0
  · subst h0
    rw [spans_nil _ 0 p (by omega), List.append_nil, Int.add_zero]
  · exact spansF_join m p hp (by omega) n.toNat a n hn (by omega) (by omega)
theorem spans_split (a n m p : Int) (hp : 1 ≤ p) (hn : 0 < n) (hm : 0 < m) (h : (a + n) % p ≠ 0) : (spansS a n p).length + (spansS (a + n) m p).length = (spansS a (n + m) p).length + 1 := by
  have h1 := spans_count a n p hn hp
  have h2 := spans_count (a + n) m p hm hp
  have h3 := spans_count a (n + m) p (by omega) hp
  have e : (a + n - 1) / p = (a + n) / p := by
    have e1 := Int.mul_ediv_add_emod (a + n) p
    have m1 := mod_bounds (a + n) p hp
    rw [Int.ediv_eq_iff_of_pos (by omega)]
    have := Int.mul_comm p ((a + n) / p)
    have h4 : ((a + n) / p + 1) * p = (a + n) / p * p + p := by rw [Int.add_mul, Int.one_mul]
    constructor <;> omega
  rw [e] at h1
  rw [show a + (n + m) - 1 = a + n + m - 1 from by omega] at h3
  omega

/-- what unit.Many tells of a number and of one more -/
theorem many_facts (n p : Int) (hn : 1 ≤ n) (hp : 1 ≤ p) : manyS (n + p) p = manyS n p + 1 ∧ manyS n p ≤ manyS (n + 1) p ∧ n ≤ manyS n p * p ∧ 1 ≤ manyS n p ∧ manyS n p ≤ n := by
  have e : ∀ k, 1 ≤ k → manyS k p = (k - 1) / p + 1 := fun k hk => by rw [manyS, if_neg (by omega)]
  have d := div_bounds (n - 1) p (by omega) hp
  have e2 := Int.mul_ediv_add_emod (n - 1) p
  have m2 := mod_bounds (n - 1) p hp
  rw [e n hn, e (n + p) (by omega), e (n + 1) (by omega)]
  refine ⟨?_, ?_, ?_, by omega, by omega⟩
  · rw [show n + p - 1 = n - 1 + p from by omega, Int.add_ediv_of_dvd_right (Int.dvd_refl p), Int.ediv_self (by omega)]
  · have := Int.ediv_le_ediv (a := n - 1) (b := n + 1 - 1) (c := p) (by omega) (by omega)
    omega
  · rw [Int.add_mul, Int.one_mul, Int.mul_comm]
    omega
end Go.Proofs.Yteipffehpddmjaa
