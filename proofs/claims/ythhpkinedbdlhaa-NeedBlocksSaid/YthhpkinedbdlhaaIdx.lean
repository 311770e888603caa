/- Where the first element of a list lies that meets a predicate. No program in sight. -/
import Derived.Test.YthhpkinedbdlhaaLV
namespace Go.Proofs.Ythhpkinedbdlhaa
open Go.RowKit
def Idx (p : Int → Bool) (l : List Int) (r : Int) : Prop :=
  (r = -1 ∧ ∀ j, j < l.length → p (l.getD j 0) = false) ∨ ∃ k : Nat, r = k ∧ k < l.length ∧ p (l.getD k 0) = true ∧ ∀ j, j < k → p (l.getD j 0) = false
def NoneTo (p : Int → Bool) (l : List Int) (k : Nat) : Prop := ∀ j, j < k → p (l.getD j 0) = false
theorem NoneTo.step {p : Int → Bool} {l : List Int} {k : Nat} (h : NoneTo p l k) (hk : p (l.getD k 0) = false) : NoneTo p l (k + 1) := fun j hj => by
  rcases Nat.lt_succ_iff_lt_or_eq.1 hj with h1 | rfl
  · exact h j h1
  · exact hk
theorem Idx.none_ {p : Int → Bool} {l : List Int} (h : NoneTo p l l.length) : Idx p l (-1) := .inl ⟨rfl, h⟩
theorem Idx.some_ {p : Int → Bool} {l : List Int} {k : Nat} (hk : k < l.length) (h : NoneTo p l k) (hp : p (l.getD k 0) = true) : Idx p l k := .inr ⟨k, rfl, hk, hp, h⟩
theorem Idx.any {p : Int → Bool} {l : List Int} {r : Int} (h : Idx p l r) : decide (0 ≤ r) = l.any p := by
  rw [Bool.eq_iff_iff]
  simp only [decide_eq_true_eq, List.any_eq_true]
  rcases h with ⟨rfl, h⟩ | ⟨k, rfl, hk, hp, h⟩
  · constructor
    · intro h0; omega
    · rintro ⟨x, hx, hpx⟩
      obtain ⟨j, hj, rfl⟩ := List.getElem_of_mem hx
      have := h j hj
      simp [List.getD, hj] at this
      rw [this] at hpx
      cases hpx
  · constructor
    · intro _
      exact ⟨_, List.getElem_mem hk, by simpa [List.getD, hk] using hp⟩
    · intro _; omega
end Go.Proofs.Ythhpkinedbdlhaa
