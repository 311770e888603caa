/- Plan in plain terms: which counts may be, when one page is too much, the pages behind a move, how many moves. No program in sight. -/
namespace Go.Proofs.Ytejmggfofcfndaa

def mayP (l : List Int) (b : Int) : Bool := l.all fun n => decide (1 ≤ n) && decide (n < b)
def dueP (o k : Int) : Bool := decide (k + 1 < o)
def decLast : List Int → List Int
  | [] => []
  | [x] => [x - 1]
  | x :: y :: l => x :: decLast (y :: l)
def adjP : List Int → List Int
  | [] => []
  | x :: l => (x + 1) :: decLast l
def keepP (b : Int) (n : Int) : Bool := !(n == 0 || n == b)
/-- the pages behind a move -/
def nextP (l : List Int) (b : Int) : List Int := if l.length < 2 then l else (adjP l).filter (keepP b)

theorem decLast_length : ∀ l, (decLast l).length = l.length
  | [] => rfl
  | [_] => rfl
  | x :: y :: l => by simp [decLast, decLast_length (y :: l)]
theorem decLast_sum : ∀ l, l ≠ [] → (decLast l).sum = l.sum - 1
  | [], h => absurd rfl h
  | [x], _ => by simp [decLast]
  | x :: y :: l, _ => by
    have := decLast_sum (y :: l) (by simp)
    simp only [decLast, List.sum_cons] at this ⊢
    omega
theorem adjP_length (l : List Int) : (adjP l).length = l.length := by cases l <;> simp [adjP, decLast_length]

theorem mayP_cons {x : Int} {l : List Int} {b : Int} : mayP (x :: l) b = true ↔ (1 ≤ x ∧ x < b) ∧ mayP l b = true := by simp [mayP]
theorem mayP_nil (b : Int) : mayP [] b = true := rfl
theorem mayP_mem {l : List Int} {b : Int} : mayP l b = true ↔ ∀ x ∈ l, 1 ≤ x ∧ x < b := by simp [mayP]

/-- the tail of a move: the last one less by one, or gone -/
def tl (l : List Int) (b : Int) : List Int := (decLast l).filter (keepP b)
theorem keep_mid {x b : Int} (h : 1 ≤ x ∧ x < b) : keepP b x = true := by
  simp only [keepP, Bool.not_eq_true', Bool.or_eq_false_iff, beq_eq_false_iff_ne]
  omega
theorem tl_spec : ∀ (l : List Int) (b : Int), l ≠ [] → mayP l b = true → mayP (tl l b) b = true ∧ (tl l b).sum = l.sum - 1 ∧ ((tl l b).length = l.length ∨ (tl l b).length + 1 = l.length)
  | [], _, h, _ => absurd rfl h
  | [x], b, _, h => by
    have hx := (mayP_cons.1 h).1
    unfold tl
    simp only [decLast]
    by_cases e : x = 1
    · subst e
      simp [keepP, mayP]
    · rw [List.filter_cons_of_pos (keep_mid (by omega))]
      simp [mayP]
      omega
  | x :: y :: l, b, _, h => by
    have h1 := mayP_cons.1 h
    obtain ⟨i1, i2, i3⟩ := tl_spec (y :: l) b (by simp) h1.2
    have e : tl (x :: y :: l) b = x :: tl (y :: l) b := by
      unfold tl
      simp only [decLast]
      rw [List.filter_cons_of_pos (keep_mid h1.1)]
    rw [e]
    refine ⟨mayP_cons.2 ⟨h1.1, i1⟩, ?_, ?_⟩
    · simp only [List.sum_cons] at i2 ⊢; omega
    · simp only [List.length_cons] at i3 ⊢; omega
/-- a move of counts that may be -/
theorem next_cases (x y : Int) (l : List Int) (b : Int) (h : mayP (x :: y :: l) b = true) :
    (x + 1 = b ∧ nextP (x :: y :: l) b = tl (y :: l) b) ∨ (x + 1 < b ∧ nextP (x :: y :: l) b = (x + 1) :: tl (y :: l) b) := by
  have h1 := mayP_cons.1 h
  have e : nextP (x :: y :: l) b = ((x + 1) :: decLast (y :: l)).filter (keepP b) := by
    unfold nextP adjP
    rw [if_neg (by simp)]
  by_cases hb : x + 1 = b
  · refine .inl ⟨hb, ?_⟩
    rw [e, List.filter_cons_of_neg (by simp [keepP, hb])]
    rfl
  · refine .inr ⟨by omega, ?_⟩
    rw [e, List.filter_cons_of_pos (keep_mid (by omega))]
    rfl
theorem next_small {l : List Int} (b : Int) (h : l.length < 2) : nextP l b = l := if_pos h

theorem sum_pos : ∀ (l : List Int) (b : Int), mayP l b = true → (l.length : Int) ≤ l.sum
  | [], _, _ => by simp
  | x :: l, b, h => by
    have h1 := mayP_cons.1 h
    have := sum_pos l b h1.2
    simp only [List.length_cons, List.sum_cons]
    omega
theorem sum_le : ∀ (l : List Int) (b : Int), mayP l b = true → l.sum ≤ l.length * (b - 1)
  | [], _, _ => by simp
  | x :: l, b, h => by
    have h1 := mayP_cons.1 h
    have := sum_le l b h1.2
    have e : ((l.length : Int) + 1) * (b - 1) = l.length * (b - 1) + (b - 1) := by rw [Int.add_mul, Int.one_mul]
    simp only [List.length_cons, List.sum_cons, Int.natCast_add, Int.natCast_one]
    omega

/-- the law PlanKeeps -/
theorem next_keeps {l : List Int} {b : Int} (h2 : 2 ≤ l.length) (h : mayP l b = true) :
    mayP (nextP l b) b = true ∧ (nextP l b).length ≤ l.length ∧ l.length - 2 ≤ (nextP l b).length ∧ (l.getD 0 0 = b - 1 → (nextP l b).sum = l.sum - b) ∧ (l.getD 0 0 ≠ b - 1 → (nextP l b).sum = l.sum) := by
  match l, h2 with
  | x :: y :: l, _ =>
    have h1 := mayP_cons.1 h
    obtain ⟨i1, i2, i3⟩ := tl_spec (y :: l) b (by simp) h1.2
    simp only [List.length_cons] at i3
    simp only [List.getD_cons_zero, List.length_cons, List.sum_cons] at i2 ⊢
    rcases next_cases x y l b h with ⟨hb, e⟩ | ⟨hb, e⟩
    · rw [e]
      exact ⟨i1, by omega, by omega, fun _ => by omega, fun _ => by omega⟩
    · rw [e]
      exact ⟨mayP_cons.2 ⟨by omega, i1⟩, by simp; omega, by simp; omega, fun _ => by omega, fun _ => by simp only [List.sum_cons]; omega⟩

/-- what lies behind the first page: it gets less by each move -/
def rest (l : List Int) : Int := l.tail.sum
theorem rest_next {l : List Int} {b : Int} (h2 : 2 ≤ l.length) (h : mayP l b = true) : rest (nextP l b) + 1 ≤ rest l := by
  match l, h2 with
  | x :: y :: l, _ =>
    have h1 := mayP_cons.1 h
    obtain ⟨i1, i2, i3⟩ := tl_spec (y :: l) b (by simp) h1.2
    simp only [rest, List.tail_cons]
    rcases next_cases x y l b h with ⟨hb, e⟩ | ⟨hb, e⟩
    · rw [e]
      have hs := sum_pos _ _ i1
      cases hq : tl (y :: l) b with
      | nil =>
        rw [hq] at i2
        simp at i2 ⊢
        omega
      | cons z q =>
        have h3 := hq ▸ i1
        have h4 := mayP_cons.1 h3
        rw [hq] at i2
        simp only [List.tail_cons]
        rw [List.sum_cons] at i2
        omega
    · rw [e]
      simp only [List.tail_cons]
      omega
theorem rest_nonneg {l : List Int} {b : Int} (h : mayP l b = true) : 0 ≤ rest l := by
  cases l with
  | nil => simp [rest]
  | cons x l =>
    have := sum_pos l b (mayP_cons.1 h).2
    simp only [rest, List.tail_cons]
    omega

/-- how many moves, of so many rounds at most -/
def mvs (b k : Int) : Nat → List Int → Nat → Nat
  | 0, _, _ => 0
  | f + 1, l, n => if dueP l.length k then (if l.length < 2 then 0 else mvs b k f (nextP l b) (n + 1)) else n
theorem mvs_more (b k : Int) : ∀ (f : Nat) (l : List Int) (n : Nat), mayP l b = true → rest l < f → ∀ g, f ≤ g → mvs b k g l n = mvs b k f l n
  | 0, l, n, h, hr, _, _ => by have := rest_nonneg h; omega
  | f + 1, l, n, h, hr, g, hg => by
    obtain ⟨g, rfl⟩ : ∃ m, g = m + 1 := ⟨g - 1, by omega⟩
    simp only [mvs]
    by_cases hd : dueP l.length k = true
    · rw [if_pos hd, if_pos hd]
      by_cases h2 : l.length < 2
      · rw [if_pos h2, if_pos h2]
      · rw [if_neg h2, if_neg h2]
        have h3 := rest_next (by omega) h
        exact mvs_more b k f _ _ (next_keeps (by omega) h).1 (by omega) g (by omega)
    · rw [if_neg hd, if_neg hd]
def movesP (l : List Int) (b k : Int) : Nat := mvs b k (rest l + 1).toNat l 0
theorem mvs_shift (b k : Int) : ∀ (f : Nat) (l : List Int) (n : Nat), 0 ≤ k → mvs b k f l n = n + mvs b k f l 0 ∨ f ≤ rest l ∨ ¬ mayP l b = true
  | 0, l, n, _ => by
    by_cases h : mayP l b = true
    · have := rest_nonneg h; exact .inr (.inl (by omega))
    · exact .inr (.inr h)
  | f + 1, l, n, hk => by
    by_cases h : mayP l b = true
    · by_cases hr : (f : Int) + 1 ≤ rest l
      · exact .inr (.inl (by omega))
      · refine .inl ?_
        simp only [mvs]
        by_cases hd : dueP l.length k = true
        · have h2 : 2 ≤ l.length := by simp only [dueP, decide_eq_true_eq] at hd; omega
          rw [if_pos hd, if_pos hd, if_neg (by omega), if_neg (by omega)]
          have h3 := rest_next h2 h
          have hm := (next_keeps h2 h).1
          have a1 := mvs_shift b k f (nextP l b) (n + 1) hk
          have a2 := mvs_shift b k f (nextP l b) (0 + 1) hk
          rcases a1 with a1 | a1 | a1
          · rcases a2 with a2 | a2 | a2
            · rw [a1, a2]; omega
            · omega
            · exact absurd hm a2
          · omega
          · exact absurd hm a1
        · rw [if_neg hd, if_neg hd]; omega
    · exact .inr (.inr h)
/-- one move, then those behind it -/
theorem moves_due {l : List Int} {b k : Int} (hk : 0 ≤ k) (h : mayP l b = true) (hd : dueP l.length k = true) : movesP l b k = movesP (nextP l b) b k + 1 := by
  have h2 : 2 ≤ l.length := by simp only [dueP, decide_eq_true_eq] at hd; omega
  have hr := rest_nonneg h
  have h3 := rest_next h2 h
  have hm := (next_keeps h2 h).1
  have hr2 := rest_nonneg hm
  unfold movesP
  obtain ⟨f, hf⟩ : ∃ f, (rest l + 1).toNat = f + 1 := ⟨(rest l).toNat, by omega⟩
  rw [hf]
  simp only [mvs]
  rw [if_pos hd, if_neg (by omega)]
  have a1 := mvs_more b k (rest (nextP l b) + 1).toNat (nextP l b) (0 + 1) hm (by omega) f (by omega)
  rw [a1]
  rcases mvs_shift b k (rest (nextP l b) + 1).toNat (nextP l b) (0 + 1) hk with h | h | h
  · rw [h]; omega
  · omega
  · exact absurd hm h
theorem moves_not {l : List Int} {b k : Int} (hd : dueP l.length k = false) (h : mayP l b = true) : movesP l b k = 0 := by
  have hr := rest_nonneg h
  unfold movesP
  obtain ⟨f, hf⟩ : ∃ f, (rest l + 1).toNat = f + 1 := ⟨(rest l).toNat, by omega⟩
  rw [hf]
  simp [mvs, hd]
/-- the last page's blocks -/
theorem last_next {l : List Int} {b : Int} (h2 : 2 ≤ l.length) (h : mayP l b = true) : (nextP l b).length < l.length ∨ ((nextP l b).length = l.length ∧ (nextP l b).getLastD 0 + 1 = l.getLastD 0) := by
  have tlast : ∀ (l : List Int) (z : Int), mayP (z :: l) b = true → (tl (z :: l) b).length < (z :: l).length ∨ ((tl (z :: l) b).length = (z :: l).length ∧ (tl (z :: l) b).getLastD 0 + 1 = (z :: l).getLastD 0) := by
    intro l
    induction l with
    | nil =>
      intro z hz
      have hz1 := (mayP_cons.1 hz).1
      unfold tl
      simp only [decLast]
      by_cases e : z = 1
      · subst e; left; simp [keepP]
      · right; rw [List.filter_cons_of_pos (keep_mid (by omega))]; simp
    | cons y l ih =>
      intro z hz
      have hz1 := mayP_cons.1 hz
      have e : tl (z :: y :: l) b = z :: tl (y :: l) b := by
        unfold tl
        simp only [decLast]
        rw [List.filter_cons_of_pos (keep_mid hz1.1)]
      rw [e]
      rcases ih y hz1.2 with h | ⟨h, k⟩
      · left; simp at h ⊢; omega
      · right
        refine ⟨by simp at h ⊢; omega, ?_⟩
        cases hq : tl (y :: l) b with
        | nil => rw [hq] at h; simp at h
        | cons u q => rw [hq] at k; simpa using k
  match l, h2 with
  | x :: y :: l, _ =>
    have h1 := mayP_cons.1 h
    obtain ⟨i1, i2, i3⟩ := tl_spec (y :: l) b (by simp) h1.2
    rcases next_cases x y l b h with ⟨hb, e⟩ | ⟨hb, e⟩
    · rw [e]; left; simp only [List.length_cons] at i3 ⊢; omega
    · rw [e]
      rcases tlast l y h1.2 with h | ⟨h, k⟩
      · left; simp at h ⊢; omega
      · right
        refine ⟨by simp at h ⊢; omega, ?_⟩
        cases hq : tl (y :: l) b with
        | nil => rw [hq] at h; simp at h
        | cons u q => rw [hq] at k; simpa using k
theorem last_mem {l : List Int} {b : Int} (h1 : 1 ≤ l.length) (h : mayP l b = true) : 1 ≤ l.getLastD 0 ∧ l.getLastD 0 < b := by
  cases l with
  | nil => simp at h1
  | cons x l =>
    have := (mayP_mem.1 h) ((x :: l).getLastD 0) (by rw [List.getLastD_cons]; exact List.getLastD_mem_cons)
    exact this
/-- BOUNDED: no more moves than the last one's blocks, and blocks less 1 for each further page that is too much -/
theorem moves_bound (b k : Int) (hk : 0 ≤ k) : ∀ (f : Nat) (l : List Int), rest l < f → mayP l b = true → dueP l.length k = true → (movesP l b k : Int) ≤ l.getLastD 0 + (l.length - 2 - k) * (b - 1)
  | 0, l, hr, h, _ => by have := rest_nonneg h; omega
  | f + 1, l, hr, h, hd => by
    have hd' : k + 1 < (l.length : Int) := by simpa [dueP] using hd
    have h2 : 2 ≤ l.length := by omega
    have h3 := rest_next h2 h
    have hm := (next_keeps h2 h).1
    have hn := next_keeps h2 h
    rw [moves_due hk h hd]
    have hl := last_mem (by omega) h
    have hb : 0 ≤ b - 1 := by omega
    by_cases hd2 : dueP (nextP l b).length k = true
    · have hd2' : k + 1 < ((nextP l b).length : Int) := by simpa [dueP] using hd2
      have ih := moves_bound b k hk f (nextP l b) (by omega) hm hd2
      have hl2 := last_mem (by omega) hm
      rcases last_next h2 h with h4 | ⟨h4, h5⟩
      · have e : (((nextP l b).length : Int) - 2 - k) * (b - 1) + (b - 1) ≤ ((l.length : Int) - 2 - k) * (b - 1) := by
          have e1 : (((nextP l b).length : Int) - 2 - k) * (b - 1) + (b - 1) = (((nextP l b).length : Int) - 2 - k + 1) * (b - 1) := by rw [Int.add_mul, Int.one_mul]
          rw [e1]
          exact Int.mul_le_mul_of_nonneg_right (by omega) hb
        push_cast
        omega
      · rw [h4] at ih
        push_cast
        omega
    · rw [moves_not (by simpa using hd2) hm]
      have e : 0 ≤ ((l.length : Int) - 2 - k) * (b - 1) := Int.mul_nonneg (by omega) hb
      push_cast
      omega
/-- where more may be open it takes no more moves -/
theorem moves_less (b k j : Int) (hk : 0 ≤ k) (hj : k ≤ j) : ∀ (f : Nat) (l : List Int), rest l < f → mayP l b = true → movesP l b j ≤ movesP l b k
  | 0, l, hr, h => by have := rest_nonneg h; omega
  | f + 1, l, hr, h => by
    by_cases hd : dueP l.length j = true
    · have hd' : j + 1 < (l.length : Int) := by simpa [dueP] using hd
      have hdk : dueP l.length k = true := by simp only [dueP, decide_eq_true_eq]; omega
      have h2 : 2 ≤ l.length := by omega
      rw [moves_due (by omega) h hd, moves_due hk h hdk]
      have h3 := rest_next h2 h
      have := moves_less b k j hk hj f (nextP l b) (by omega) (next_keeps h2 h).1
      omega
    · rw [moves_not (by simpa using hd) h]; omega
end Go.Proofs.Ytejmggfofcfndaa
