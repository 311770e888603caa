/- What chain.Cut answers, as a plain Lean function, and the contract of the inner function that tells the next span: where its three variables lie. -/
import Derived.Test.YteipffehpddmjaaRows
import Derived.Test.YteipffehpddmjaaMany
namespace Go.Proofs.Yteipffehpddmjaa
open Go.RowKit

structure Sp where
  n : Int
  at_ : Int
  len : Int
def Sp.cells (s : Sp) : List Value := [.int .i64 s.n, .int .i64 s.at_, .int .i64 s.len]
def headS (a n p : Int) : Sp := ⟨a / p, a % p, if p - a % p < n then p - a % p else n⟩
def spansF : Nat → Int → Int → Int → List Sp
  | 0, _, _, _ => []
  | k + 1, a, n, p => if n ≤ 0 then [] else headS a n p :: spansF k (a + (headS a n p).len) (n - (headS a n p).len) p
def spansS (a n p : Int) : List Sp := spansF n.toNat a n p

theorem head_len (a n p : Int) (hn : 0 < n) (hp : 1 ≤ p) : 1 ≤ (headS a n p).len ∧ (headS a n p).len ≤ n := by
  have := mod_bounds a p hp
  show 1 ≤ (if p - a % p < n then p - a % p else n) ∧ (if p - a % p < n then p - a % p else n) ≤ n
  split <;> omega
theorem spansF_enough (p : Int) (hp : 1 ≤ p) : ∀ (k j : Nat) (a n : Int), n ≤ k → n ≤ j → spansF k a n p = spansF j a n p := by
  intro k
  induction k with
  | zero =>
    intro j a n h1 h2
    cases j with
    | zero => rfl
    | succ j => simp only [spansF]; rw [if_pos (by omega)]
  | succ k ih =>
    intro j a n h1 h2
    cases j with
    | zero => simp only [spansF]; rw [if_pos (by omega)]
    | succ j =>
      simp only [spansF]
      by_cases h : n ≤ 0
      · rw [if_pos h, if_pos h]
      · have := head_len a n p (by omega) hp
        rw [if_neg h, if_neg h, ih j _ _ (by omega) (by omega)]
theorem spans_nil (a n p : Int) (h : n ≤ 0) : spansS a n p = [] := by
  unfold spansS
  rw [show n.toNat = 0 from by omega]
  rfl
theorem spans_cons (a n p : Int) (h : 0 < n) (hp : 1 ≤ p) : spansS a n p = headS a n p :: spansS (a + (headS a n p).len) (n - (headS a n p).len) p := by
  have hl := head_len a n p h hp
  unfold spansS
  obtain ⟨k, hk⟩ : ∃ k, n.toNat = k + 1 := ⟨n.toNat - 1, by omega⟩
  rw [hk]
  simp only [spansF]
  rw [if_neg (by omega), spansF_enough p hp k ((n - (headS a n p).len).toNat) _ _ (by omega) (by omega)]

theorem spansF_length (p : Int) (hp : 1 ≤ p) : ∀ (k : Nat) (a n : Int), 0 ≤ n → ((spansF k a n p).length : Int) ≤ n := by
  intro k
  induction k with
  | zero => intro a n h; simpa [spansF] using h
  | succ k ih =>
    intro a n h
    simp only [spansF]
    by_cases h1 : n ≤ 0
    · rw [if_pos h1]; simpa using h
    · have hl := head_len a n p (by omega) hp
      rw [if_neg h1, List.length_cons]
      have := ih (a + (headS a n p).len) (n - (headS a n p).len) (by omega)
      omega
theorem spans_length (a n p : Int) (hn : 0 ≤ n) (hp : 1 ≤ p) : ((spansS a n p).length : Int) ≤ n := spansF_length p hp _ a n hn

/-- the three variables of the iterator -/
def StS (w : World) (gA gP gN : Nat) (a n p : Int) : Prop :=
  w.heap[gA]? = some (.cells #[.int .i64 a] 3 (0, 0)) ∧ w.heap[gP]? = some (.cells #[.int .i64 p] 3 (0, 0)) ∧ w.heap[gN]? = some (.cells #[.int .i64 n] 3 (0, 0))

theorem next_any (w : World) (gA gP gN : Nat) (a n p : Int) (ha : 0 ≤ a) (ha2 : a ≤ 16777216) (hn : 0 < n) (hn2 : n ≤ 16777216) (hp : 1 ≤ p) (hp2 : p ≤ 9223372036854775807) (hs : StS w gA gP gN a n p) :
    Calls Try.prog 18 #[.pointer (some ⟨gA, 0, none⟩), .pointer (some ⟨gP, 0, none⟩), .pointer (some ⟨gN, 0, none⟩)] w fun e w' =>
      e = .returned (.agg #[.int .i64 (headS a n p).n, .int .i64 (headS a n p).at_, .int .i64 (headS a n p).len]) ∧ Keep (fun _ => False) w w' := by
  obtain ⟨hA, hP, hN⟩ := hs
  have cA : w.cell? ⟨gA, 0, none⟩ = some (.int .i64 a) := blk_cell hA 0
  have cP : w.cell? ⟨gP, 0, none⟩ = some (.int .i64 p) := blk_cell hP 0
  have cN : w.cell? ⟨gN, 0, none⟩ = some (.int .i64 n) := blk_cell hN 0
  have lA : gA < w.heap.size := blk_lt hA
  have lP : gP < w.heap.size := blk_lt hP
  have lN : gN < w.heap.size := blk_lt hN
  have dA : ∀ o, (w.alloc o).cell? ⟨gA, 0, none⟩ = some (.int .i64 a) := fun o => blk_cell (blk_alloc hA o) 0
  have dP : ∀ o, (w.alloc o).cell? ⟨gP, 0, none⟩ = some (.int .i64 p) := fun o => blk_cell (blk_alloc hP o) 0
  have dN : ∀ o, (w.alloc o).cell? ⟨gN, 0, none⟩ = some (.int .i64 n) := fun o => blk_cell (blk_alloc hN o) 0
  have hm := mod_bounds a p hp
  have hd := div_bounds a p ha hp
  clear hA hP hN
  unfold headS
  simp only
  by_cases hlt : p - a % p < n
  · rw [if_pos hlt]
    go_enter Try.func18, Try.ntmps18
    go_wp2
    go_region
    go_wp2
    refine bodyPost_ret (v := .agg #[.int .i64 (a / p), .int .i64 (a % p), .int .i64 (p - a % p)]) (by simp [results, Try.results18, go_sem]) rfl ⟨rfl, ((Keep.refl _ _).alloc _).drew⟩
  · rw [if_neg hlt]
    go_enter Try.func18, Try.ntmps18
    go_wp2
    go_region
    go_wp2
    refine bodyPost_ret (v := .agg #[.int .i64 (a / p), .int .i64 (a % p), .int .i64 n]) (by simp [results, Try.results18, go_sem]) rfl ⟨rfl, ((Keep.refl _ _).alloc _).drew⟩
end Go.Proofs.Yteipffehpddmjaa
