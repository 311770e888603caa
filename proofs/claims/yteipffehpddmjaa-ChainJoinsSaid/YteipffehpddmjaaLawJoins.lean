/- The walk through the law ChainJoins. -/
import Derived.Test.YteipffehpddmjaaSame
import Derived.Test.YteipffehpddmjaaRCut
namespace Go.Proofs.Yteipffehpddmjaa
open Go.RowKit
attribute [local go_sem] Oper.semAt_some

theorem flat_one (l : List Sp) : ∀ u ∈ flatS l, u.oneCell' = true := by
  intro u hu
  simp only [flatS, List.mem_flatMap, Sp.cells] at hu
  obtain ⟨s, _, h⟩ := hu
  simp only [List.mem_cons, List.not_mem_nil, or_false] at h
  rcases h with rfl | rfl | rfl <;> rfl

theorem flatS_append (l l' : List Sp) : flatS (l ++ l') = flatS l ++ flatS l' := by simp [flatS]

set_option maxHeartbeats 4000000 in
theorem lawJoins_any (w : World) (x n m z : Int) (hx : 0 ≤ x ∧ x ≤ 65535) (hn : 0 ≤ n ∧ n ≤ 255) (hm : 0 ≤ m ∧ m ≤ 255) (hz : 0 ≤ z ∧ z ≤ 255) :
    Calls Try.prog 5 #[.int .u16 x, .agg #[.int .u8 n, .int .u8 m], .int .u8 z] w fun e w' => e = .returned (.bool true) ∧ Below w.heap.size w w' := by
  obtain ⟨i0, ei, ez0, ez1, ez2⟩ := info_parts Try.infoSpan
  obtain ⟨p, hp⟩ : ∃ p, p = 8 + z := ⟨_, rfl⟩
  have bp : 8 ≤ p ∧ p ≤ 263 := by omega
  have c1 : cutS x n p = spansS x n p := by unfold cutS; rw [if_neg (by omega)]
  have c2 : cutS (x + n) m p = spansS (x + n) m p := by unfold cutS; rw [if_neg (by omega)]
  have c3 : cutS x (n + m) p = spansS x (n + m) p := by unfold cutS; rw [if_neg (by omega)]
  have l1 := spans_length x n p (by omega) (by omega)
  have l2 := spans_length (x + n) m p (by omega) (by omega)
  have l3 := spans_length x (n + m) p (by omega) (by omega)
  have J := Lib.hid (spans_join x n m p (by omega) hn.1 hm.1)
  have J2 := Lib.hid (spans_split x n m p (by omega))
  have t1 : (x + n).tmod p = (x + n) % p := Int.tmod_eq_emod_of_nonneg (by omega)
  have m1 := mod_bounds (x + n) p (by omega)
  obtain ⟨r, hr⟩ : ∃ r, r = (x + n) % p := ⟨_, rfl⟩
  rw [← hr] at t1 m1 J J2
  obtain ⟨A, hA⟩ : ∃ A, A = spansS x n p := ⟨_, rfl⟩
  obtain ⟨B, hB⟩ : ∃ B, B = spansS (x + n) m p := ⟨_, rfl⟩
  obtain ⟨C, hC⟩ : ∃ C, C = spansS x (n + m) p := ⟨_, rfl⟩
  rw [← hA] at c1 l1 J J2
  rw [← hB] at c2 l2 J J2
  rw [← hC] at c3 l3 J J2
  have C1 := Lib.hid c1
  have C2 := Lib.hid c2
  have C3 := Lib.hid c3
  have Hp := Lib.hid hp
  clear c1 c2 c3 hr hA hB hC hp
  go_enter Try.func5, Try.ntmps5
  go_wp2_with fail
  refine (awake_any _).mono ?_
  rintro e w1 ⟨rfl, b1⟩
  have B1 : w1.heap[w.heap.size]? = some (.cells #[.int .u8 n, .int .u8 m] 32 (0, 0)) := below_blk b1 (blk_new _ _) (by simp)
  have x0 := blk_cell B1 0
  have x1 := blk_cell B1 1
  have bb1 : Below w.heap.size w w1 := below_after ((Below.refl _ _).alloc (Nat.le_refl _) _) b1 (by simp)
  go_wp2_with fail
  simp only [← Hp.out]
  refine (cut_any _ x n p (by omega)).mono ?_
  rintro e w2 ⟨v2, rfl, o2, b2⟩
  rw [C1.out] at o2
  have oE2 := own_below (own_empty w1 w1.heap.size 29 3 (Nat.le_refl _)) b2
  have z2 : w1.heap.size ≤ w2.heap.size := by have := b2.size; simp at this; omega
  have k2 : Below w1.heap.size w1 w2 := below_after ((Below.refl _ _).alloc (Nat.le_refl _) _) b2 (by simp)
  go_wp2_with (at_builtin; refine wpList_append_list _ rfl (.tmp 26) (.tmp 30) 24 rfl w1.heap.size 29 i0 (.agg #[.int .i64 0, .int .i64 0, .int .i64 0]) 3 24 Try.underlying24 ei ez0 ez1 ez2 rfl (by decide) _ _ _ rfl oE2 A.length (flatS A) (own_readV o2) (flatS_length _) (flat_one _) (by unfold maxLen; omega) (by omega) z2 ?_; intro v3 w3 o3 hg3; simp only [Nat.zero_add, List.nil_append] at o3)
  have k3 : Below w1.heap.size w1 w3 := below_append k2 oE2 (Keep.refl _ _) hg3 z2
  refine (cut_any _ (x + n) m p (by omega)).mono ?_
  rintro e w4 ⟨v4, rfl, o4, b4⟩
  rw [C2.out] at o4
  have k4 : Below w1.heap.size w1 w4 := below_after k3 b4 k3.size
  have o3' := own_below o3 b4
  go_wp2_with (at_builtin; refine wpList_append_list _ rfl (.tmp 31) (.tmp 37) 24 rfl w1.heap.size 29 i0 (.agg #[.int .i64 0, .int .i64 0, .int .i64 0]) 3 24 Try.underlying24 ei ez0 ez1 ez2 rfl (by decide) _ _ _ rfl o3' B.length (flatS B) (own_readV o4) (flatS_length _) (flat_one _) (by unfold maxLen; omega) (by omega) k4.size ?_; intro v5 w5 o5 hg5)
  have k5 : Below w1.heap.size w1 w5 := below_append k4 o3' (Keep.refl _ _) hg5 k4.size
  refine (cut_any _ x (n + m) p (by omega)).mono ?_
  rintro e w6 ⟨v6, rfl, o6, b6⟩
  rw [C3.out] at o6
  have k6 : Below w1.heap.size w1 w6 := below_after k5 b6 k5.size
  have o5' := own_below o5 b6
  rw [← flatS_append, ← List.length_append] at o5'
  have fin : Below w.heap.size w w6 := below_after bb1 k6 bb1.size
  obtain ⟨y5, c5, rfl, r5⟩ := own_readC o5'
  obtain ⟨y6, c6, rfl, r6⟩ := own_readC o6
  by_cases hn0 : 0 < n
  · by_cases hm0 : 0 < m
    · by_cases hr0 : r = 0
      · have hJ := J.out (.inl hr0)
        subst hr0
        rw [hJ] at r5 ⊢
        clear o2 o3 o4 o5 o6 o5' o3' oE2 hJ
        go_wp2_with fail
        refine (same_eq _ y5 y6 c5 c6 C (by omega) r5 r6).mono ?_
        rintro e w7 ⟨rfl, b7⟩
        go_wp2_with fail
        go_ret
        exact ⟨rfl, below_after fin b7 fin.size⟩
      · have hJ := J2.out hn0 hm0 hr0
        have hr1 : (r == 0) = false := by simpa using hr0
        rw [← List.length_append] at hJ
        rw [hJ]
        have cst : ((C.length + 1 : Nat) : Int) = C.length + 1 := rfl
        clear o2 o3 o4 o5 o6 o5' o3' oE2 hJ
        go_wp2_with fail
        go_ret
        exact ⟨rfl, fin⟩
    · have hJ := J.out (.inr (.inr (by omega)))
      rw [hJ] at r5 ⊢
      clear o2 o3 o4 o5 o6 o5' o3' oE2 hJ
      go_wp2_with fail
      refine (same_eq _ y5 y6 c5 c6 C (by omega) r5 r6).mono ?_
      rintro e w7 ⟨rfl, b7⟩
      go_wp2_with fail
      go_ret
      exact ⟨rfl, below_after fin b7 fin.size⟩
  · have hJ := J.out (.inr (.inl (by omega)))
    rw [hJ] at r5 ⊢
    clear o2 o3 o4 o5 o6 o5' o3' oE2 hJ
    go_wp2_with fail
    refine (same_eq _ y5 y6 c5 c6 C (by omega) r5 r6).mono ?_
    rintro e w7 ⟨rfl, b7⟩
    go_wp2_with fail
    go_ret
    exact ⟨rfl, below_after fin b7 fin.size⟩
end Go.Proofs.Yteipffehpddmjaa
