/- The closure of class.Pick; which size is picked, in plain terms. -/
import Derived.Test.YthhpkinedbdlhaaLV
import Derived.Test.YthhpkinedbdlhaaIdx
namespace Go.Proofs.Ythhpkinedbdlhaa
open Go.RowKit
def geP (b x : Int) : Bool := decide (b ≤ x)
theorem clo_pick (w : World) (g : Nat) (b x : Int) (hg : w.heap[g]? = some (.cells #[.int .i64 b] 3 (0, 0))) : Calls Try.prog 43 #[.int .i64 x, .pointer (some ⟨g, 0, none⟩)] w fun e w' => e = .returned (.bool (geP b x)) ∧ w = w' := by
  have c0 := blk_cell hg 0
  clear hg
  rw [show geP b x = decide (b ≤ x) from rfl]
  go_enter Try.func43, Try.ntmps43
  go_wp2_with fail
  go_ret
  exact ⟨rfl, rfl⟩
def idxP (p : Int → Bool) : List Int → Int
  | [] => -1
  | x :: l => if p x then 0 else if idxP p l = -1 then -1 else idxP p l + 1
theorem idxP_idx (p : Int → Bool) : ∀ l, Idx p l (idxP p l)
  | [] => .inl ⟨rfl, fun j hj => absurd hj (Nat.not_lt_zero j)⟩
  | x :: l => by
    have ih := idxP_idx p l
    simp only [idxP]
    cases hp : p x with
    | true => rw [if_pos rfl]; exact .inr ⟨0, rfl, by simp, by simpa using hp, fun j hj => absurd hj (Nat.not_lt_zero j)⟩
    | false =>
      rw [if_neg Bool.false_ne_true]
      rcases ih with ⟨h1, h2⟩ | ⟨k, h1, h2, h3, h4⟩
      · rw [h1, if_pos rfl]
        refine .inl ⟨rfl, fun j hj => ?_⟩
        cases j with
        | zero => simpa using hp
        | succ j => simpa using h2 j (by simpa using hj)
      · rw [h1, if_neg (by omega)]
        refine .inr ⟨k + 1, by omega, by simpa using h2, by simpa using h3, fun j hj => ?_⟩
        cases j with
        | zero => simpa using hp
        | succ j => simpa using h4 j (by omega)
theorem Idx.unique {p : Int → Bool} {l : List Int} {r s : Int} (h : Idx p l r) (k : Idx p l s) : r = s := by
  rcases h with ⟨rfl, h⟩ | ⟨i, rfl, hi, hp, h⟩ <;> rcases k with ⟨rfl, k⟩ | ⟨j, rfl, hj, hq, k⟩
  · rfl
  · have := h j hj; rw [hq] at this; cases this
  · have := k i hi; rw [hp] at this; cases this
  · rcases Nat.lt_trichotomy i j with h1 | h1 | h1
    · have := k i h1; rw [hp] at this; cases this
    · rw [h1]
    · have := h j h1; rw [hq] at this; cases this
def pickP (l : List Int) (n : Int) : Int := if n < 1 then -1 else idxP (geP n) l
theorem pickP_range (l : List Int) (n : Int) : -1 ≤ pickP l n ∧ pickP l n < l.length := by
  unfold pickP
  split
  · omega
  · rcases idxP_idx (geP n) l with ⟨h, _⟩ | ⟨k, h, hk, _⟩ <;> omega
end Go.Proofs.Ythhpkinedbdlhaa
