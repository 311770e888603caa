/- What one more thing, another turn, and a page's blocks of things come to (no program in sight). -/
import Derived.Test.YthhpkinedbdlhaaNeed4
namespace Go.Proofs.Ythhpkinedbdlhaa
open Go.RowKit
set_option linter.unusedVariables false

theorem sumI_shift (f : Nat → Int) (m : Nat) : ∀ n, sumI f (m + n) = sumI f m + sumI (fun i => f (m + i)) n
  | 0 => by simp [sumI]
  | n + 1 => by
    rw [show m + (n + 1) = (m + n) + 1 from rfl]
    simp only [sumI]
    rw [sumI_shift f m n]
    omega
theorem getD_left {a b : List Int} {i : Nat} (h : i < a.length) : (a ++ b).getD i 0 = a.getD i 0 := by rw [List.getD_eq_getElem?_getD, List.getD_eq_getElem?_getD, List.getElem?_append_left h]
theorem getD_right (a b : List Int) (i : Nat) : (a ++ b).getD (a.length + i) 0 = b.getD i 0 := by rw [List.getD_eq_getElem?_getD, List.getD_eq_getElem?_getD, List.getElem?_append_right (by omega), Nat.add_sub_cancel_left]
theorem sumI_append (g : Int → Int) (a b : List Int) : sumI (fun i => g ((a ++ b).getD i 0)) (a ++ b).length = sumI (fun i => g (a.getD i 0)) a.length + sumI (fun i => g (b.getD i 0)) b.length := by
  rw [List.length_append, sumI_shift]
  rw [sumI_congr (f := fun i => g ((a ++ b).getD i 0)) (g := fun i => g (a.getD i 0)) a.length (fun k hk => by rw [getD_left hk])]
  rw [sumI_congr (f := fun i => g ((a ++ b).getD (a.length + i) 0)) (g := fun i => g (b.getD i 0)) b.length (fun k hk => by rw [getD_right])]
theorem badS_append (c : Cf) (a b : List Int) : badS c (a ++ b) = badS c a + badS c b := sumI_append (badF c) a b
theorem liveS_append (c : Cf) (a b : List Int) (k : Int) : liveS c (a ++ b) k = liveS c a k + liveS c b k := sumI_append (liveF c k) a b
theorem largeS_append (c : Cf) (a b : List Int) : largeS c (a ++ b) = largeS c a + largeS c b := sumI_append (largeF c) a b
theorem badS_nonneg (c : Cf) (l : List Int) : 0 ≤ badS c l := (sumI_bounds (f := fun i => badF c (l.getD i 0)) (M := 1) (n := l.length) (fun i _ => badF_range c _) l.length (Nat.le_refl _)).1
theorem badS_one (c : Cf) (x : Int) : badS c [x] = badF c x := by simp [badS, sumI]
theorem liveS_one (c : Cf) (x k : Int) : liveS c [x] k = liveF c k x := by simp [liveS, sumI]
theorem largeS_one (c : Cf) (x : Int) : largeS c [x] = largeF c x := by simp [largeS, sumI]
theorem sumI_add (f g : Nat → Int) : ∀ n, sumI (fun k => f k + g k) n = sumI f n + sumI g n
  | 0 => rfl
  | n + 1 => by simp only [sumI]; rw [sumI_add f g n]; omega
theorem sumI_le {f g : Nat → Int} : ∀ n, (∀ k, k < n → f k ≤ g k) → sumI f n ≤ sumI g n
  | 0, _ => Int.le_refl _
  | n + 1, h => by
    have h1 := sumI_le n (fun k hk => h k (by omega))
    have h2 := h n (by omega)
    simp only [sumI]
    omega
/-- all but one part are the same -/
theorem sumI_one {f g : Nat → Int} {i : Nat} : ∀ n, (∀ k, k < n → k ≠ i → f k = g k) → f i ≤ g i → g i ≤ f i + 1 → sumI f n ≤ sumI g n ∧ sumI g n ≤ sumI f n + (if i < n then 1 else 0)
  | 0, _, _, _ => by simp [sumI]
  | n + 1, h, h1, h2 => by
    have ih := sumI_one (i := i) n (fun k hk => h k (by omega)) h1 h2
    simp only [sumI]
    by_cases e : n = i
    · subst e
      rw [if_neg (by omega)] at ih
      rw [if_pos (by omega)]
      omega
    · have h3 := h n (by omega) e
      by_cases e2 : i < n
      · rw [if_pos e2] at ih
        rw [if_pos (by omega)]
        omega
      · rw [if_neg e2] at ih
        rw [if_neg (by omega)]
        omega

theorem manyS_mono {n m b : Int} (h0 : 0 ≤ n) (h : n ≤ m) : manyS n b ≤ manyS m b := by
  unfold manyS
  by_cases hb : b < 1
  · rw [if_pos (.inr hb), if_pos (.inr hb)]; exact Int.le_refl _
  · by_cases h1 : n < 1
    · rw [if_pos (.inl h1)]
      split
      · exact Int.le_refl _
      · have : 0 ≤ (m - 1) / b := Int.ediv_nonneg (by omega) (by omega)
        omega
    · rw [if_neg (by omega), if_neg (by omega)]
      have : (n - 1) / b ≤ (m - 1) / b := Int.ediv_le_ediv (by omega) (by omega)
      omega
theorem manyS_zero (b : Int) : manyS 0 b = 0 := if_pos (.inl (by decide))
theorem manyS_none {b : Int} (n : Int) (hb : b < 1) : manyS n b = 0 := if_pos (.inr hb)
theorem manyS_pos {n b : Int} (hn : 1 ≤ n) (hb : 1 ≤ b) : manyS n b = (n - 1) / b + 1 := if_neg (by omega)
theorem manyS_succ {n b : Int} (h0 : 0 ≤ n) : manyS (n + 1) b ≤ manyS n b + 1 := by
  by_cases hb : b < 1
  · rw [manyS_none _ hb, manyS_none _ hb]; omega
  · by_cases h1 : n = 0
    · subst h1
      rw [manyS_zero, manyS_pos (by omega) (by omega)]
      simp
    · rw [manyS_pos (by omega) (by omega), manyS_pos (by omega) (by omega)]
      have h2 : (n + 1 - 1) / b ≤ (n - 1 + b) / b := Int.ediv_le_ediv (by omega) (by omega)
      have h3 : (n - 1 + b) / b = (n - 1) / b + 1 := Int.add_ediv_of_dvd_right (Int.dvd_refl b) |>.trans (by rw [Int.ediv_self (by omega)])
      omega
theorem manyS_add {n m b : Int} (h0 : 0 ≤ n) (h1 : 0 ≤ m) : manyS (n + m) b ≤ manyS n b + manyS m b := by
  by_cases hb : b < 1
  · rw [manyS_none _ hb, manyS_none _ hb, manyS_none _ hb]; omega
  · by_cases g1 : n = 0
    · subst g1
      rw [manyS_zero, Int.zero_add, Int.zero_add]
      exact Int.le_refl _
    · by_cases g2 : m = 0
      · subst g2
        rw [manyS_zero, Int.add_zero, Int.add_zero]
        exact Int.le_refl _
      · rw [manyS_pos (by omega) (by omega), manyS_pos (by omega) (by omega), manyS_pos (by omega) (by omega)]
        have d1 := Int.emod_add_mul_ediv (n - 1) b
        have d2 := Int.emod_add_mul_ediv (m - 1) b
        have r1 := Int.emod_lt_of_pos (n - 1) (b := b) (by omega)
        have r2 := Int.emod_lt_of_pos (m - 1) (b := b) (by omega)
        generalize (n - 1) / b = q1 at d1 ⊢
        generalize (m - 1) / b = q2 at d2 ⊢
        have h3 : n + m - 1 < b * (q1 + q2 + 2) := by
          rw [Int.mul_add, Int.mul_add]
          omega
        have h4 : (n + m - 1) / b < q1 + q2 + 2 := Int.ediv_lt_of_lt_mul (by omega) (by rw [Int.mul_comm]; exact h3)
        omega

/-- a thing that is greater than the greatest block has no class -/
theorem class_le {l : List Int} {page : Int} (h : mayB l page = true) : ∀ j i, i ≤ j → j < l.length → l.getD i 0 ≤ l.getD j 0
  | 0, i, hij, _ => by have : i = 0 := by omega
                       subst this; exact Int.le_refl _
  | j + 1, i, hij, hj => by
    by_cases e : i = j + 1
    · subst e; exact Int.le_refl _
    · have h1 := class_le h j i (by omega) (by omega)
      have h2 := okC_succ.1 ((mayB_iff.1 h).2.2 (j + 1) hj)
      omega
theorem class_lt {l : List Int} {page : Int} (h : mayB l page = true) {i j : Nat} (hij : i < j) (hj : j < l.length) : l.getD i 0 < l.getD j 0 := by
  obtain ⟨m, rfl⟩ : ∃ m, j = m + 1 := ⟨j - 1, by omega⟩
  have h1 := class_le h m i (by omega) (by omega)
  have h2 := okC_succ.1 ((mayB_iff.1 h).2.2 (m + 1) hj)
  omega
theorem pick_far {l : List Int} {page x : Int} (h : mayB l page = true) (hx : lastC l < x) : pickP l x = -1 := by
  by_cases h1 : x < 1
  · exact if_pos h1
  · unfold pickP
    rw [if_neg h1]
    rcases idxP_idx (geP x) l with ⟨h2, _⟩ | ⟨k, h2, hk, hp, _⟩
    · exact h2
    · have h3 := class_le h (l.length - 1) k (by omega) (by omega)
      simp only [geP, decide_eq_true_eq] at hp
      unfold lastC at hx
      omega
theorem pick_self {l : List Int} {page : Int} (h : mayB l page = true) {k : Nat} (hk : k < l.length) : pickP l (l.getD k 0) = k := by
  have h0 := (mayB_iff.1 h).2.2 k hk
  unfold okC at h0
  unfold pickP
  rw [if_neg (by omega)]
  refine (idxP_idx (geP (l.getD k 0)) l).unique (Idx.some_ hk (fun j hj => ?_) ?_)
  · have := class_lt h hj hk
    simp only [geP, decide_eq_false_iff_not]
    omega
  · simp [geP]

theorem more_bad {c : Cf} {l : List Int} {x : Int} (h : ¬ (pagesE c l = 0 ∧ pagesE c (l ++ [x]) = 0)) : pagesE c (l ++ [x]) = 3 ∧ (pagesE c l ≠ 0 ∨ ¬ okN c x) := by
  have h1 := badS_append c l [x]
  have h2 := badS_nonneg c l
  have h3 := badS_one c x
  have h4 := badF_range c x
  unfold pagesE at h ⊢
  by_cases e : 0 < badS c l
  · rw [if_pos e] at h ⊢
    rw [if_pos (by omega)]
    exact ⟨rfl, .inl (by decide)⟩
  · rw [if_neg e] at h ⊢
    by_cases e2 : 0 < badS c (l ++ [x])
    · rw [if_pos e2]
      refine ⟨rfl, .inr (fun hok => ?_)⟩
      have : badF c x = 0 := if_pos hok
      omega
    · rw [if_neg e2] at h
      exact absurd ⟨rfl, rfl⟩ h
theorem more_ok {c : Cf} {l : List Int} {x : Int} (h2 : pagesE c (l ++ [x]) = 0) : okN c x := by
  have h1 := badS_append c l [x]
  have h0 := badS_nonneg c l
  have h3 := badS_one c x
  unfold pagesE at h2
  by_cases e2 : 0 < badS c (l ++ [x])
  · rw [if_pos e2] at h2; cases h2
  · by_cases e : okN c x
    · exact e
    · have : badF c x = 1 := if_neg e
      omega
theorem pagesN_of {c : Cf} {l : List Int} (h : pagesE c l = 0) : pagesN c l = smallS c l + largeS c l := by
  unfold pagesE at h
  by_cases e : 0 < badS c l
  · rw [if_pos e] at h; cases h
  · exact if_neg e
theorem more_large {c : Cf} (ok : OkMay c) {l : List Int} {x : Int} (h1 : pagesE c l = 0) (h2 : pagesE c (l ++ [x]) = 0) (hx : lastC c.classes < x) : pagesN c (l ++ [x]) = pagesN c l + allS x c.size := by
  rw [pagesN_of h1, pagesN_of h2, largeS_append, largeS_one]
  have e1 : largeF c x = allS x c.size := if_neg (by omega)
  have e2 : smallS c (l ++ [x]) = smallS c l := by
    unfold smallS
    refine sumI_congr _ (fun k hk => ?_)
    rw [liveS_append, liveS_one]
    have : liveF c k x = 0 := if_neg (fun h => by
      have h3 := pick_far ok.classes hx
      have h4 := h.2.2
      rw [h3] at h4
      omega)
    rw [this, Int.add_zero]
  rw [e1, e2]
  omega
theorem more_small {c : Cf} (ok : OkMay c) {l : List Int} {x : Int} (h1 : pagesE c l = 0) (h2 : pagesE c (l ++ [x]) = 0) (hx : x ≤ lastC c.classes) : pagesN c l ≤ pagesN c (l ++ [x]) ∧ pagesN c (l ++ [x]) ≤ pagesN c l + 1 := by
  rw [pagesN_of h1, pagesN_of h2, largeS_append, largeS_one]
  have e1 : largeF c x = 0 := if_pos hx
  have hr := pickP_range c.classes x
  have e2 := sumI_one (f := fun k => manyS (liveS c l k) (blocksS c k)) (g := fun k => manyS (liveS c (l ++ [x]) k) (blocksS c k)) (i := (pickP c.classes x).toNat) c.classes.length (fun k hk hne => by
    rw [liveS_append, liveS_one]
    have : liveF c k x = 0 := if_neg (fun h => by have := h.2.2; omega)
    rw [this, Int.add_zero]) (by
    rw [liveS_append, liveS_one]
    have h3 := liveF_range c ((pickP c.classes x).toNat : Nat) x
    have h4 := (liveS_range c l ((pickP c.classes x).toNat : Nat)).1
    exact manyS_mono h4 (by omega)) (by
    rw [liveS_append, liveS_one]
    have h3 := liveF_range c ((pickP c.classes x).toNat : Nat) x
    have h4 := (liveS_range c l ((pickP c.classes x).toNat : Nat)).1
    have h5 := manyS_succ (n := liveS c l ((pickP c.classes x).toNat : Nat)) (b := blocksS c ((pickP c.classes x).toNat : Nat)) h4
    have h6 := manyS_mono (n := liveS c l ((pickP c.classes x).toNat : Nat) + liveF c ((pickP c.classes x).toNat : Nat) x) (m := liveS c l ((pickP c.classes x).toNat : Nat) + 1) (b := blocksS c ((pickP c.classes x).toNat : Nat)) (by omega) (by omega)
    omega)
  unfold smallS
  rw [e1]
  have : (if (pickP c.classes x).toNat < c.classes.length then (1 : Int) else 0) ≤ 1 := by split <;> omega
  omega

theorem turn_same (c : Cf) (a b : List Int) : pagesE c (b ++ a) = pagesE c (a ++ b) ∧ pagesN c (b ++ a) = pagesN c (a ++ b) := by
  have e1 : badS c (b ++ a) = badS c (a ++ b) := by rw [badS_append, badS_append]; omega
  have e2 : largeS c (b ++ a) = largeS c (a ++ b) := by rw [largeS_append, largeS_append]; omega
  have e3 : smallS c (b ++ a) = smallS c (a ++ b) := by
    unfold smallS
    refine sumI_congr _ (fun k hk => ?_)
    rw [liveS_append, liveS_append, Int.add_comm]
  unfold pagesE pagesN
  rw [e1, e2, e3]
  exact ⟨rfl, rfl⟩
theorem turn_bad {c : Cf} {a b : List Int} (h : pagesE c (a ++ b) ≠ 0) : pagesE c a ≠ 0 ∨ pagesE c b ≠ 0 := by
  have h1 := badS_append c a b
  have h2 := badS_nonneg c a
  have h3 := badS_nonneg c b
  unfold pagesE at h ⊢
  by_cases e : 0 < badS c (a ++ b)
  · by_cases e1 : 0 < badS c a
    · rw [if_pos e1]; exact .inl (by decide)
    · rw [if_pos (show 0 < badS c b by omega)]; exact .inr (by decide)
  · rw [if_neg e] at h; exact absurd rfl h
theorem turn_ok {c : Cf} {a b : List Int} (h : pagesE c (a ++ b) = 0) : pagesE c a = 0 ∧ pagesE c b = 0 := by
  have h1 := badS_append c a b
  have h2 := badS_nonneg c a
  have h3 := badS_nonneg c b
  unfold pagesE at h ⊢
  by_cases e : 0 < badS c (a ++ b)
  · rw [if_pos e] at h; cases h
  · rw [if_neg (show ¬ 0 < badS c a by omega), if_neg (show ¬ 0 < badS c b by omega)]
    exact ⟨rfl, rfl⟩
theorem turn_le {c : Cf} (ok : OkMay c) {a b : List Int} (h : pagesE c (a ++ b) = 0) : pagesN c (a ++ b) ≤ pagesN c a + pagesN c b ∧ pagesN c a ≤ pagesN c (a ++ b) ∧ pagesN c b ≤ pagesN c (a ++ b) := by
  obtain ⟨ha, hb⟩ := turn_ok h
  rw [pagesN_of h, pagesN_of ha, pagesN_of hb, largeS_append]
  have hoa : ∀ i, i < a.length → okN c (a.getD i 0) := bad_zero (by unfold pagesE at ha; intro e; rw [if_pos e] at ha; cases ha)
  have hob : ∀ i, i < b.length → okN c (b.getD i 0) := bad_zero (by unfold pagesE at hb; intro e; rw [if_pos e] at hb; cases hb)
  have la : 0 ≤ largeS c a := (sumI_bounds (f := fun i => largeF c (a.getD i 0)) (M := 513) (n := a.length) (fun i hi => largeF_range ok (hoa i hi)) a.length (Nat.le_refl _)).1
  have lb : 0 ≤ largeS c b := (sumI_bounds (f := fun i => largeF c (b.getD i 0)) (M := 513) (n := b.length) (fun i hi => largeF_range ok (hob i hi)) b.length (Nat.le_refl _)).1
  have s1 : smallS c (a ++ b) ≤ smallS c a + smallS c b := by
    unfold smallS
    rw [← sumI_add]
    refine sumI_le _ (fun k hk => ?_)
    rw [liveS_append]
    exact manyS_add (liveS_range c a k).1 (liveS_range c b k).1
  have s2 : smallS c a ≤ smallS c (a ++ b) := by
    unfold smallS
    refine sumI_le _ (fun k hk => ?_)
    rw [liveS_append]
    have := (liveS_range c b k).1
    exact manyS_mono (liveS_range c a k).1 (by omega)
  have s3 : smallS c b ≤ smallS c (a ++ b) := by
    unfold smallS
    refine sumI_le _ (fun k hk => ?_)
    rw [liveS_append]
    have := (liveS_range c a k).1
    exact manyS_mono (liveS_range c b k).1 (by omega)
  omega

/-- as many things of a class's size as are named -/
theorem rep_sum (g : Int → Int) (x : Int) (n : Nat) : sumI (fun i => g ((List.replicate n x).getD i 0)) (List.replicate n x).length = n * g x := by
  rw [List.length_replicate]
  rw [sumI_congr (g := fun _ => g x) n (fun k hk => by simp [List.getD, hk])]
  induction n with
  | zero => simp [sumI]
  | succ n ih =>
    simp only [sumI]
    rw [ih, Int.natCast_add, Int.add_mul]
    simp
theorem sumI_single {f : Nat → Int} {i : Nat} : ∀ n, (∀ k, k < n → k ≠ i → f k = 0) → i < n → sumI f n = f i
  | 0, _, h => by omega
  | n + 1, h, hi => by
    simp only [sumI]
    by_cases e : n = i
    · subst e
      have : sumI f n = 0 := by
        have : sumI f n = sumI (fun _ => 0) n := sumI_congr n (fun k hk => h k (by omega) (by omega))
        rw [this]
        clear this h hi
        induction n with
        | zero => rfl
        | succ n ih => simp [sumI, ih]
      omega
    · rw [sumI_single n (fun k hk => h k (by omega)) (by omega), h n (by omega) e]
      omega
theorem manyS_self {b : Int} (hb : 1 ≤ b) : manyS b b = 1 ∧ manyS (b + 1) b = 2 := by
  unfold manyS
  rw [if_neg (by omega), if_neg (by omega)]
  rw [Int.ediv_eq_zero_of_lt (by omega) (by omega), show b + 1 - 1 = b from by omega, Int.ediv_self (by omega)]
  decide
theorem rep_pages {c : Cf} (ok : OkMay c) {k : Nat} (hk : k < c.classes.length) (hm : c.classes.getD k 0 ≤ c.most) (n : Nat) :
    pagesE c (List.replicate n (c.classes.getD k 0)) = 0 ∧ liveS c (List.replicate n (c.classes.getD k 0)) k = n ∧ pagesN c (List.replicate n (c.classes.getD k 0)) = manyS n (blocksS c k) ∧ ¬ 0 < badS c (List.replicate n (c.classes.getD k 0)) ∧ smallS c (List.replicate n (c.classes.getD k 0)) + largeS c (List.replicate n (c.classes.getD k 0)) = manyS n (blocksS c k) := by
  have h0 := (mayB_iff.1 ok.classes).2.2 k hk
  unfold okC at h0
  have hok : okN c (c.classes.getD k 0) := ⟨by omega, hm⟩
  have b0 : badS c (List.replicate n (c.classes.getD k 0)) = 0 := by
    unfold badS
    rw [rep_sum, show badF c (c.classes.getD k 0) = 0 from if_pos hok, Int.mul_zero]
  have l0 : ∀ j : Nat, liveS c (List.replicate n (c.classes.getD k 0)) j = if j = k then (n : Int) else 0 := fun j => by
    unfold liveS
    rw [rep_sum]
    by_cases e : j = k
    · subst e
      rw [if_pos rfl, show liveF c j (c.classes.getD j 0) = 1 from if_pos ⟨hok, by omega, pick_self ok.classes hk⟩, Int.mul_one]
    · rw [if_neg e, show liveF c j (c.classes.getD k 0) = 0 from if_neg (fun h => by
        have := h.2.2
        rw [pick_self ok.classes hk] at this
        omega), Int.mul_zero]
  have g0 : largeS c (List.replicate n (c.classes.getD k 0)) = 0 := by
    unfold largeS
    rw [rep_sum, show largeF c (c.classes.getD k 0) = 0 from if_pos (class_le ok.classes (c.classes.length - 1) k (by omega) (by omega)), Int.mul_zero]
  have s0 : smallS c (List.replicate n (c.classes.getD k 0)) = manyS n (blocksS c k) := by
    unfold smallS
    rw [sumI_single (i := k) c.classes.length (fun j hj hne => by rw [l0 j, if_neg hne]; rfl) hk, l0 k, if_pos rfl]
  have hE : pagesE c (List.replicate n (c.classes.getD k 0)) = 0 := if_neg (by omega)
  exact ⟨hE, by rw [l0 k, if_pos rfl], by rw [pagesN_of hE, s0, g0, Int.add_zero], by omega, by rw [s0, g0, Int.add_zero]⟩
theorem blocks_pos {c : Cf} (ok : OkMay c) {k : Nat} (hk : k < c.classes.length) : 1 ≤ blocksS c k ∧ blocksS c k ≤ 512 := by
  have h0 := (mayB_iff.1 ok.classes).2.2 k hk
  unfold okC at h0
  have s1 := ok.size1
  have s2 := ok.size2
  unfold blocksS
  rw [if_neg (by omega), show ((k : Int)).toNat = k from rfl]
  unfold wholeS
  rw [if_neg (by omega)]
  have h1 : 1 ≤ c.size / c.classes.getD k 0 := by
    rw [Int.le_ediv_iff_mul_le (by omega)]
    omega
  have h2 : c.size / c.classes.getD k 0 ≤ 512 := by
    have : c.size / c.classes.getD k 0 < 513 := Int.ediv_lt_of_lt_mul (by omega) (by omega)
    omega
  exact ⟨h1, h2⟩
end Go.Proofs.Ythhpkinedbdlhaa
