/- The reference's cut of layer 16 answers the same spans, and its number of pages: in every world. -/
import Derived.Test.YteipffehpddmjaaPlain
import Derived.Test.YteipffehpddmjaaRMany
import Derived.Test.YteipffehpddmjaaGrow
namespace Go.Proofs.Yteipffehpddmjaa
open Go.RowKit
attribute [local go_sem] Oper.semAt_some

theorem rdata_any (w : World) (n b : Int) (hn2 : n ≤ 9223372036854775807) : Calls Try.prog 11 #[.int .i64 n, .int .i64 b] w fun e w' => e = .returned (.int .i64 (manyS n b)) ∧ w = w' := by
  go_enter Try.func11, Try.ntmps11
  go_wp2_with fail
  refine (rmany_any _ n b hn2).mono ?_
  rintro e w' ⟨rfl, rfl⟩
  go_wp2_with fail
  go_ret
  exact ⟨rfl, rfl⟩

theorem rcut_no (w : World) (a n p : Int) (h : a < 0 ∨ n < 1 ∨ p < 1 ∨ 16777216 < n ∨ 16777216 - n < a) :
    Calls Try.prog 10 #[.int .i64 a, .int .i64 n, .int .i64 p] w fun e w' => e = .returned (.slice none 0 0) ∧ w = w' := by
  by_cases h1 : a < 0
  · clear h
    go_enter Try.func10, Try.ntmps10
    go_wp2_with fail
    go_ret
    exact ⟨rfl, rfl⟩
  by_cases h2 : n < 1
  · clear h
    go_enter Try.func10, Try.ntmps10
    go_wp2_with fail
    go_ret
    exact ⟨rfl, rfl⟩
  by_cases h3 : p < 1
  · clear h
    go_enter Try.func10, Try.ntmps10
    go_wp2_with fail
    go_ret
    exact ⟨rfl, rfl⟩
  by_cases h4 : 16777216 < n
  · clear h
    go_enter Try.func10, Try.ntmps10
    go_wp2_with fail
    go_ret
    exact ⟨rfl, rfl⟩
  have h5 : 16777216 - n < a := by omega
  clear h
  go_enter Try.func10, Try.ntmps10
  go_wp2_with fail
  go_ret
  exact ⟨rfl, rfl⟩

/-- from the page k on: where its bytes begin -/
def fromK (a p k : Int) : Int := if a < k * p then k * p else a

theorem page_step (a n p k : Int) (hp : 1 ≤ p) (hn : 0 < n) (hk : a / p ≤ k) (hk2 : k ≤ (a + n - 1) / p) (ha : 0 ≤ a) :
    0 ≤ k * p ∧ k * p ≤ a + n - 1 ∧ a < k * p + p ∧ (k + 1) * p = k * p + p ∧
    headS (fromK a p k) (a + n - fromK a p k) p = ⟨k, fromK a p k - k * p, (if p < a + n - k * p then k * p + p else a + n) - fromK a p k⟩ ∧
    0 < a + n - fromK a p k ∧
    spansS (fromK a p k + ((if p < a + n - k * p then k * p + p else a + n) - fromK a p k)) (a + n - fromK a p k - ((if p < a + n - k * p then k * p + p else a + n) - fromK a p k)) p = spansS (fromK a p (k + 1)) (a + n - fromK a p (k + 1)) p := by
  have d := div_bounds a p ha hp
  have e1 := Int.mul_ediv_add_emod a p
  have m1 := mod_bounds a p hp
  have e2 := Int.mul_ediv_add_emod (a + n - 1) p
  have m2 := mod_bounds (a + n - 1) p hp
  have h1 : 0 ≤ k * p := Int.mul_nonneg (by omega) (by omega)
  have h2 : p * k ≤ p * ((a + n - 1) / p) := Int.mul_le_mul_of_nonneg_left hk2 (by omega)
  have h3 : p * (a / p) ≤ p * k := Int.mul_le_mul_of_nonneg_left hk (by omega)
  have h4 : (k + 1) * p = k * p + p := by rw [Int.add_mul, Int.one_mul]
  have c := Int.mul_comm p k
  have c2 : k * p ≤ a + n - 1 := by omega
  have c3 : a < k * p + p := by omega
  have hf : k * p ≤ fromK a p k ∧ fromK a p k < k * p + p ∧ fromK a p k ≤ a + n - 1 ∧ a ≤ fromK a p k := by
    unfold fromK; split <;> omega
  have hf2 : fromK a p (k + 1) = k * p + p := by unfold fromK; rw [h4, if_pos c3]
  have hd : fromK a p k / p = k := by
    rw [Int.ediv_eq_iff_of_pos (by omega)]
    constructor <;> omega
  have hm : fromK a p k % p = fromK a p k - k * p := by
    have := Int.mul_ediv_add_emod (fromK a p k) p
    rw [hd] at this
    omega
  refine ⟨h1, c2, c3, h4, ?_, by omega, ?_⟩
  · unfold headS
    rw [hd, hm]
    by_cases h : p < a + n - k * p
    · rw [if_pos h, if_pos (by omega)]
      simp only [Sp.mk.injEq, true_and]
      omega
    · rw [if_neg h, if_neg (by omega)]
  · rw [hf2]
    by_cases h : p < a + n - k * p
    · rw [if_pos h, show fromK a p k + (k * p + p - fromK a p k) = k * p + p from by omega, show a + n - fromK a p k - (k * p + p - fromK a p k) = a + n - (k * p + p) from by omega]
    · rw [if_neg h, spans_nil _ _ p (by omega), spans_nil _ _ p (by omega)]

set_option maxHeartbeats 2000000 in
theorem rcut_yes (w : World) (a n p : Int) (ha : 0 ≤ a) (hn : 1 ≤ n) (hp : 1 ≤ p) (hp2 : p ≤ 9223372036854775807) (hn2 : n ≤ 16777216) (han : a ≤ 16777216 - n) :
    Calls Try.prog 10 #[.int .i64 a, .int .i64 n, .int .i64 p] w fun e w' => ∃ v, e = .returned v ∧ w'.ownsRow w.heap.size 29 3 v (spansS a n p).length (flatS (spansS a n p)) ∧ Below w.heap.size w w' := by
  obtain ⟨i0, ei, ez0, ez1, ez2⟩ := info_parts Try.infoSpan
  have q1 : a.tdiv p = a / p := Int.tdiv_eq_ediv_of_nonneg ha
  have q2 : (a + n - 1).tdiv p = (a + n - 1) / p := Int.tdiv_eq_ediv_of_nonneg (by omega)
  have d1 := div_bounds a p ha hp
  have d2 := div_bounds (a + n - 1) p (by omega) hp
  obtain ⟨k0, hk0⟩ : ∃ k0, k0 = a / p := ⟨_, rfl⟩
  obtain ⟨k1, hk1⟩ : ∃ k1, k1 = (a + n - 1) / p := ⟨_, rfl⟩
  rw [← hk0] at q1 d1
  rw [← hk1] at q2 d2
  have Hk0 := Lib.hid hk0
  have Hk1 := Lib.hid hk1
  clear hk0 hk1
  go_enter Try.func10, Try.ntmps10
  go_wp2_with fail
  go_loopw [7, 8, 9, 10] (fun v i _ _ wr => ∃ (k : Int) (pre : List Sp), i = .int .i64 k ∧ k0 ≤ k ∧ k ≤ k1 + 1 ∧ pre ++ spansS (fromK a p k) (a + n - fromK a p k) p = spansS a n p ∧ wr.ownsRow w.heap.size 29 3 v pre.length (flatS pre) ∧ Below w.heap.size w wr) (fun _ i _ _ _ => (k1 + 1 - intOf i).toNat)
  case atStart =>
    have e1 := Int.mul_ediv_add_emod a p
    have m1 := mod_bounds a p hp
    have c := Int.mul_comm p k0
    rw [← Hk0.out] at e1
    have hf : fromK a p k0 = a := by unfold fromK; rw [if_neg (by omega)]
    refine ⟨k0, [], rfl, by omega, ?_, by rw [hf, show a + n - a = n from by omega]; rfl, World.ownsRow_nil _ _ _ _, Below.refl _ _⟩
    have := Int.ediv_le_ediv (a := a) (b := a + n - 1) (c := p) (by omega) (by omega)
    rw [← Hk0.out, ← Hk1.out] at this
    omega
  case round =>
    obtain ⟨k, pre, rfl, hka, hkb, hall, hown, br⟩ := hrel
    by_cases hk : k ≤ k1
    · obtain ⟨s1, s2, s3, s4, s5, s6, s7⟩ := page_step a n p k hp (by omega) (by rw [← Hk0.out]; exact hka) (by rw [← Hk1.out]; exact hk) ha
      rw [spans_cons _ _ p s6 hp, s5, s7] at hall
      have hlen : pre.length + 1 ≤ 16777216 := by
        have e := congrArg List.length hall
        rw [List.length_append, List.length_cons] at e
        have := spans_length a n p (by omega) hp
        omega
      have hlast : k + 1 ≤ k1 + 1 := by omega
      by_cases h1 : a < k * p
      · have hf : fromK a p k = k * p := if_pos h1
        rw [hf] at hall
        by_cases h2 : p < a + n - k * p
        · rw [if_pos h2] at hall
          obtain ⟨s, hs⟩ : ∃ s : Sp, s = ⟨k, 0, k * p + p - k * p⟩ := ⟨_, rfl⟩
          rw [show (⟨k, k * p - k * p, k * p + p - k * p⟩ : Sp) = ⟨k, 0, k * p + p - k * p⟩ from by simp only [Sp.mk.injEq, true_and, and_true]; omega, ← hs] at hall
          have Hall := Lib.hid hall
          have Hn := Lib.hid (new_cells wr s.cells 29)
          rw [hs] at Hn
          clear hall s5 s6 s7 hf
          go_wp2_with (at_builtin; refine wpList_append_own _ rfl _ _ 24 rfl w.heap.size 29 i0 (.agg #[.int .i64 0, .int .i64 0, .int .i64 0]) 3 24 Try.underlying24 ei ez0 ez1 ez2 rfl (by decide) _ _ _ rfl (hown.alloc _) ⟨wr.heap.size, 0, none⟩ 1 1 _ rfl rfl Hn.out (by simp [Sp.cells, Value.oneCell']) (by unfold maxLen; omega) (by omega) (by have := br.size; simp; omega) ?_; intro v' w2 hown' hgrow _; obtain ⟨g', cap', rfl⟩ := ownsRow_succ hown')
          go_roundw
          case rel => exact ⟨k + 1, pre ++ [s], rfl, by omega, hlast, by rw [List.append_assoc, List.singleton_append]; exact Hall.out, by rw [flatS_snoc, List.length_append, hs]; exact hown', below_append br hown ((Keep.refl _ _).alloc _) hgrow br.size⟩
          case measure => simp [intOf]; omega
        · rw [if_neg h2] at hall
          obtain ⟨s, hs⟩ : ∃ s : Sp, s = ⟨k, 0, a + n - k * p⟩ := ⟨_, rfl⟩
          rw [show (⟨k, k * p - k * p, a + n - k * p⟩ : Sp) = ⟨k, 0, a + n - k * p⟩ from by simp only [Sp.mk.injEq, true_and, and_true]; omega, ← hs] at hall
          have Hall := Lib.hid hall
          have Hn := Lib.hid (new_cells wr s.cells 29)
          rw [hs] at Hn
          clear hall s5 s6 s7 hf
          go_wp2_with (at_builtin; refine wpList_append_own _ rfl _ _ 24 rfl w.heap.size 29 i0 (.agg #[.int .i64 0, .int .i64 0, .int .i64 0]) 3 24 Try.underlying24 ei ez0 ez1 ez2 rfl (by decide) _ _ _ rfl (hown.alloc _) ⟨wr.heap.size, 0, none⟩ 1 1 _ rfl rfl Hn.out (by simp [Sp.cells, Value.oneCell']) (by unfold maxLen; omega) (by omega) (by have := br.size; simp; omega) ?_; intro v' w2 hown' hgrow _; obtain ⟨g', cap', rfl⟩ := ownsRow_succ hown')
          go_roundw
          case rel => exact ⟨k + 1, pre ++ [s], rfl, by omega, hlast, by rw [List.append_assoc, List.singleton_append]; exact Hall.out, by rw [flatS_snoc, List.length_append, hs]; exact hown', below_append br hown ((Keep.refl _ _).alloc _) hgrow br.size⟩
          case measure => simp [intOf]; omega
      · have hf : fromK a p k = a := if_neg h1
        rw [hf] at hall
        by_cases h2 : p < a + n - k * p
        · rw [if_pos h2] at hall
          obtain ⟨s, hs⟩ : ∃ s : Sp, s = ⟨k, a - k * p, k * p + p - a⟩ := ⟨_, rfl⟩
          rw [← hs] at hall
          have Hall := Lib.hid hall
          have Hn := Lib.hid (new_cells wr s.cells 29)
          rw [hs] at Hn
          clear hall s5 s6 s7 hf
          go_wp2_with (at_builtin; refine wpList_append_own _ rfl _ _ 24 rfl w.heap.size 29 i0 (.agg #[.int .i64 0, .int .i64 0, .int .i64 0]) 3 24 Try.underlying24 ei ez0 ez1 ez2 rfl (by decide) _ _ _ rfl (hown.alloc _) ⟨wr.heap.size, 0, none⟩ 1 1 _ rfl rfl Hn.out (by simp [Sp.cells, Value.oneCell']) (by unfold maxLen; omega) (by omega) (by have := br.size; simp; omega) ?_; intro v' w2 hown' hgrow _; obtain ⟨g', cap', rfl⟩ := ownsRow_succ hown')
          go_roundw
          case rel => exact ⟨k + 1, pre ++ [s], rfl, by omega, hlast, by rw [List.append_assoc, List.singleton_append]; exact Hall.out, by rw [flatS_snoc, List.length_append, hs]; exact hown', below_append br hown ((Keep.refl _ _).alloc _) hgrow br.size⟩
          case measure => simp [intOf]; omega
        · rw [if_neg h2] at hall
          obtain ⟨s, hs⟩ : ∃ s : Sp, s = ⟨k, a - k * p, a + n - a⟩ := ⟨_, rfl⟩
          rw [← hs] at hall
          have Hall := Lib.hid hall
          have Hn := Lib.hid (new_cells wr s.cells 29)
          rw [hs] at Hn
          clear hall s5 s6 s7 hf
          go_wp2_with (at_builtin; refine wpList_append_own _ rfl _ _ 24 rfl w.heap.size 29 i0 (.agg #[.int .i64 0, .int .i64 0, .int .i64 0]) 3 24 Try.underlying24 ei ez0 ez1 ez2 rfl (by decide) _ _ _ rfl (hown.alloc _) ⟨wr.heap.size, 0, none⟩ 1 1 _ rfl rfl Hn.out (by simp [Sp.cells, Value.oneCell']) (by unfold maxLen; omega) (by omega) (by have := br.size; simp; omega) ?_; intro v' w2 hown' hgrow _; obtain ⟨g', cap', rfl⟩ := ownsRow_succ hown')
          go_roundw
          case rel => exact ⟨k + 1, pre ++ [s], rfl, by omega, hlast, by rw [List.append_assoc, List.singleton_append]; exact Hall.out, by rw [flatS_snoc, List.length_append, hs]; exact hown', below_append br hown ((Keep.refl _ _).alloc _) hgrow br.size⟩
          case measure => simp [intOf]; omega
    · have e : k = k1 + 1 := by omega
      have e2 := Int.mul_ediv_add_emod (a + n - 1) p
      have m2 := mod_bounds (a + n - 1) p hp
      have c := Int.mul_comm p k1
      have c2 : k * p = k1 * p + p := by rw [e, Int.add_mul, Int.one_mul]
      rw [← Hk1.out] at e2
      have hf : a + n ≤ fromK a p k := by unfold fromK; split <;> omega
      rw [spans_nil _ _ p (by omega), List.append_nil] at hall
      subst hall
      clear e2 m2 c c2 hf
      obtain ⟨va, vc, rfl, _⟩ := own_slice hown
      go_wp2_with fail
      go_ret
      exact ⟨_, rfl, hown, br⟩

theorem rcut_any (w : World) (a n p : Int) (hp2 : p ≤ 9223372036854775807) :
    Calls Try.prog 10 #[.int .i64 a, .int .i64 n, .int .i64 p] w fun e w' => ∃ v, e = .returned v ∧ w'.ownsRow w.heap.size 29 3 v (cutS a n p).length (flatS (cutS a n p)) ∧ Below w.heap.size w w' := by
  by_cases h : a < 0 ∨ n < 1 ∨ p < 1 ∨ 16777216 < n ∨ 16777216 - n < a
  · have e : cutS a n p = [] := by
      unfold cutS
      split
      · rfl
      · exact spans_nil a n p (by omega)
    rw [e]
    refine (rcut_no w a n p h).mono ?_
    rintro e w' ⟨rfl, rfl⟩
    exact ⟨_, rfl, World.ownsRow_nil _ _ _ _, Below.refl _ _⟩
  · rw [cutS, if_neg (by omega)]
    exact rcut_yes w a n p (by omega) (by omega) (by omega) hp2 (by omega) (by omega)
end Go.Proofs.Yteipffehpddmjaa
