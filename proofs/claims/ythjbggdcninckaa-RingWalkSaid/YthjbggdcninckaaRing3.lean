/- ring's methods over lists of nodes. -/
import Derived.Test.YthjbggdcninckaaRing2
import Derived.Test.YthjbggdcninckaaRingP
namespace Go.Proofs.Ythjbggdcninckaa
open Go.RowKit
set_option linter.unusedVariables false

/-- the lists L of m lists of n nodes, in memory -/
def TR (w : World) (g gl gn m n : Nat) (L : Nat → List Nat) : Prop := ∃ F E M P X O, RS w g gl gn m n F E M P X O ∧ Ring m n L F E M P X O
theorem TR.keep {S : Nat → Prop} {w w' : World} {g gl gn m n : Nat} {L : Nat → List Nat} (h : TR w g gl gn m n L) (k : Keep S w w') (h1 : ¬ S g) (h2 : ¬ S gl) (h3 : ¬ S gn) : TR w' g gl gn m n L := by
  obtain ⟨F, E, M, P, X, O, a, b⟩ := h
  exact ⟨F, E, M, P, X, O, a.keep k h1 h2 h3, b⟩
theorem TR.below {w w' : World} {g gl gn m n : Nat} {L : Nat → List Nat} (h : TR w g gl gn m n L) (k : Below w.heap.size w w') : TR w' g gl gn m n L := by
  obtain ⟨F, E, M, P, X, O, a, b⟩ := h
  exact ⟨F, E, M, P, X, O, a.below k, b⟩
theorem TR.lt {w : World} {g gl gn m n : Nat} {L : Nat → List Nat} (h : TR w g gl gn m n L) : g < w.heap.size ∧ gl < w.heap.size ∧ gn < w.heap.size := by
  obtain ⟨F, E, M, P, X, O, a, b⟩ := h
  exact a.lt

/-- which list a node is in, and its place there; -1: none -/
def inB (m : Nat) (L : Nat → List Nat) (x : Nat) : Bool := (List.range m).any fun i => (L i).contains x
theorem inB_iff {m : Nat} {L : Nat → List Nat} {x : Nat} : inB m L x = true ↔ ∃ i, i < m ∧ x ∈ L i := by
  simp [inB]
theorem inB_no {m : Nat} {L : Nat → List Nat} {x : Nat} : inB m L x = false ↔ ∀ i, i < m → x ∉ L i := by
  rw [← Bool.not_eq_true, inB_iff]
  constructor
  · intro h i hi hx; exact h ⟨i, hi, hx⟩
  · rintro h ⟨i, hi, hx⟩; exact h i hi hx

/-- what a push, and a drop, comes to -/
inductive PU (m n : Nat) (L : Nat → List Nat) (i x : Int) : Int → (Nat → List Nat) → Prop
  | arg : ((i < 0 ∨ (m : Int) ≤ i) ∨ (x < 0 ∨ (n : Int) ≤ x)) → PU m n L i x 1 L
  | there (j y : Nat) : i = j → x = y → j < m → y < n → inB m L y = true → PU m n L i x 10 L
  | ok (j y : Nat) : i = j → x = y → j < m → y < n → inB m L y = false → PU m n L i x 0 (updL L j (y :: L j))
inductive DR (m n : Nat) (L : Nat → List Nat) (x : Int) : Int → (Nat → List Nat) → Prop
  | arg : (x < 0 ∨ (n : Int) ≤ x) → DR m n L x 1 L
  | none (y : Nat) : x = y → y < n → inB m L y = false → DR m n L x 9 L
  | ok (y i : Nat) (a b : List Nat) : x = y → y < n → i < m → L i = a ++ y :: b → y ∉ a → (∀ j, j < m → j ≠ i → y ∉ L j) → DR m n L x 0 (updL L i (a ++ b))

theorem tr_push (w : World) (g gl gn m n : Nat) (L : Nat → List Nat) (h : TR w g gl gn m n L) (i x : Int) :
    Calls Try.prog 13 #[ptr g, .int .i64 i, .int .i64 x] w fun e w' => ∃ er L', e = .returned (.int .i64 er) ∧ PU m n L i x er L' ∧ TR w' g gl gn m n L' ∧ Keep (fun k => k = gl ∨ k = gn) w w' := by
  have h0 := h
  obtain ⟨F, E, M, P, X, O, hr, hg⟩ := h
  by_cases g0 : (i < 0 ∨ (m : Int) ≤ i) ∨ (x < 0 ∨ (n : Int) ≤ x)
  · refine (push_arg w g gl gn m n F E M P X O hr g0).mono ?_
    rintro e w' ⟨rfl, rfl⟩
    exact ⟨_, _, rfl, .arg g0, h0, Keep.refl _ _⟩
  · obtain ⟨j, rfl⟩ : ∃ j : Nat, i = j := ⟨i.toNat, by omega⟩
    obtain ⟨y, rfl⟩ : ∃ y : Nat, x = y := ⟨x.toNat, by omega⟩
    have hj : j < m := by omega
    have hy : y < n := by omega
    cases hin : inB m L y with
    | true =>
      obtain ⟨k, hk, hky⟩ := inB_iff.1 hin
      refine (push_there w g gl gn m n F E M P X O hr hj hy (by rw [hg.of k hk y hky]; omega)).mono ?_
      rintro e w' ⟨rfl, rfl⟩
      exact ⟨_, _, rfl, .there j y rfl rfl hj hy hin, h0, Keep.refl _ _⟩
    | false =>
      have hno := inB_no.1 hin
      have hO := (hg.out y hy hno).1
      have hM : 0 ≤ M j ∧ M j ≤ 5000 := by
        have h1 := hg.len hj
        have h2 := hg.many j hj
        have h3 := hr.2.2.2.2.2.2.2
        omega
      have hF := hg.first j hj
      cases hL : L j with
      | nil =>
        rw [hL] at hF
        refine (push_first w g gl gn m n F E M P X O hr hj hy hO hM hF).mono ?_
        rintro e w' ⟨rfl, r, k⟩
        exact ⟨_, _, rfl, .ok j y rfl rfl hj hy hin, ⟨_, _, _, _, _, _, r, hg.push hj hy hno (.inl ⟨hL, rfl, rfl⟩)⟩, k⟩
      | cons z l =>
        rw [hL] at hF
        refine (push_more w g gl gn m n F E M P X O hr hj hy hO hM hF (hg.lt j hj z (by rw [hL]; exact List.mem_cons_self))).mono ?_
        rintro e w' ⟨rfl, r, k⟩
        exact ⟨_, _, rfl, .ok j y rfl rfl hj hy hin, ⟨_, _, _, _, _, _, r, hg.push hj hy hno (.inr ⟨z, l, hL, rfl, rfl⟩)⟩, k⟩
theorem mem_split {x : Nat} : ∀ (l : List Nat), x ∈ l → ∃ a b, l = a ++ x :: b ∧ x ∉ a
  | [], h => by cases h
  | y :: l, h => by
    by_cases e : y = x
    · subst e; exact ⟨[], l, rfl, by simp⟩
    · have h' : x ∈ l := by
        rcases List.mem_cons.1 h with h | h
        · exact absurd h.symm e
        · exact h
      obtain ⟨a, b, h1, h2⟩ := mem_split l h'
      exact ⟨y :: a, b, by rw [h1]; rfl, fun hm => by
        rcases List.mem_cons.1 hm with h | h
        · exact e h.symm
        · exact h2 h⟩
theorem snoc_of {a : List Nat} (h : a ≠ []) : ∃ a' y, a = a' ++ [y] := by
  rcases List.eq_nil_or_concat a with h1 | ⟨a', y, h1⟩
  · exact absurd h1 h
  · exact ⟨a', y, by rw [h1]; simp⟩
theorem tr_drop (w : World) (g gl gn m n : Nat) (L : Nat → List Nat) (h : TR w g gl gn m n L) (x : Int) :
    Calls Try.prog 20 #[ptr g, .int .i64 x] w fun e w' => ∃ er L', e = .returned (.int .i64 er) ∧ DR m n L x er L' ∧ TR w' g gl gn m n L' ∧ Keep (fun k => k = gl ∨ k = gn) w w' := by
  have h0 := h
  obtain ⟨F, E, M, P, X, O, hr, hg⟩ := h
  by_cases g0 : x < 0 ∨ (n : Int) ≤ x
  · refine (drop_arg w g gl gn m n F E M P X O hr g0).mono ?_
    rintro e w' ⟨rfl, rfl⟩
    exact ⟨_, _, rfl, .arg g0, h0, Keep.refl _ _⟩
  · obtain ⟨y, rfl⟩ : ∃ y : Nat, x = y := ⟨x.toNat, by omega⟩
    have hy : y < n := by omega
    cases hin : inB m L y with
    | false =>
      refine (drop_none w g gl gn m n F E M P X O hr hy (hg.out y hy (inB_no.1 hin)).1).mono ?_
      rintro e w' ⟨rfl, rfl⟩
      exact ⟨_, _, rfl, .none y rfl hy hin, h0, Keep.refl _ _⟩
    | true =>
      obtain ⟨i, hi, hiy⟩ := inB_iff.1 hin
      obtain ⟨a, b, hL, hna⟩ := mem_split (L i) hiy
      obtain ⟨s1, s2, s3, s4, s5, s6, s7, s8, s9⟩ := hg.split hi hL
      have hO := hg.of i hi y hiy
      have hM : 0 ≤ M i ∧ M i ≤ 5000 := by
        have h1 := hg.len hi
        have h2 := hg.many i hi
        have h3 := hr.2.2.2.2.2.2.2
        omega
      have hlt := hg.lt i hi
      have hD : DR m n L (y : Int) 0 (updL L i (a ++ b)) := .ok y i a b rfl hy hi hL hna (fun j hj hne hm => hne (hg.apart hj hi hm hiy))
      by_cases ha : a = []
      · by_cases hb : b = []
        · refine (drop_first_last w g gl gn m n F E M P X O hr hi hy hO hM (by rw [s1, ha]; rfl) (by rw [s2, hb]; rfl)).mono ?_
          rintro e w' ⟨rfl, r, k⟩
          exact ⟨_, _, rfl, hD, ⟨_, _, _, _, _, _, r, hg.drop hi hL (.inl ⟨ha, by rw [hb]; rfl, rfl⟩) (.inl ⟨hb, by rw [ha]; rfl, rfl⟩)⟩, k⟩
        · obtain ⟨z, b', hb'⟩ : ∃ z b', b = z :: b' := by cases b with
            | nil => exact absurd rfl hb
            | cons z b' => exact ⟨z, b', rfl⟩
          refine (drop_first_more w g gl gn m n F E M P X O hr hi hy hO hM (b := z) (hlt z (by rw [hL, hb']; simp)) (fun e => s4 (by rw [hb', e]; simp)) (by rw [s1, ha]; rfl) (by rw [s2, hb']; rfl)).mono ?_
          rintro e w' ⟨rfl, r, k⟩
          exact ⟨_, _, rfl, hD, ⟨_, _, _, _, _, _, r, hg.drop hi hL (.inl ⟨ha, by rw [hb']; rfl, rfl⟩) (.inr ⟨z, b', hb', rfl, by rw [ha]; rfl⟩)⟩, k⟩
      · obtain ⟨a', u, ha'⟩ := snoc_of ha
        by_cases hb : b = []
        · refine (drop_mid_last w g gl gn m n F E M P X O hr hi hy hO hM (a := u) (hlt u (by rw [hL, ha']; simp)) (fun e => s3 (by rw [ha', e]; simp)) (by rw [s1, ha', laq_snoc]) (by rw [s2, hb]; rfl)).mono ?_
          rintro e w' ⟨rfl, r, k⟩
          exact ⟨_, _, rfl, hD, ⟨_, _, _, _, _, _, r, hg.drop hi hL (.inr ⟨a', u, ha', rfl, by rw [hb]; rfl⟩) (.inl ⟨hb, by rw [ha', laq_snoc], rfl⟩)⟩, k⟩
        · obtain ⟨z, b', hb'⟩ : ∃ z b', b = z :: b' := by cases b with
            | nil => exact absurd rfl hb
            | cons z b' => exact ⟨z, b', rfl⟩
          refine (drop_mid_more w g gl gn m n F E M P X O hr hi hy hO hM (b := z) (hlt z (by rw [hL, hb']; simp)) (fun e => s4 (by rw [hb', e]; simp)) (a := u) (hlt u (by rw [hL, ha']; simp)) (fun e => s3 (by rw [ha', e]; simp)) (by rw [s1, ha', laq_snoc]) (by rw [s2, hb']; rfl)).mono ?_
          rintro e w' ⟨rfl, r, k⟩
          exact ⟨_, _, rfl, hD, ⟨_, _, _, _, _, _, r, hg.drop hi hL (.inr ⟨a', u, ha', rfl, by rw [hb']; rfl⟩) (.inr ⟨z, b', hb', rfl, by rw [ha', laq_snoc]⟩)⟩, k⟩

/-- what is told -/
def firstT (m : Nat) (L : Nat → List Nat) (i : Int) : Int := if i < 0 ∨ (m : Int) ≤ i then -1 else hdq (L i.toNat) (-1)
def lastT (m : Nat) (L : Nat → List Nat) (i : Int) : Int := if i < 0 ∨ (m : Int) ≤ i then -1 else laq (-1) (L i.toNat)
def lenT (m : Nat) (L : Nat → List Nat) (i : Int) : Int := if i < 0 ∨ (m : Int) ≤ i then 0 else (L i.toNat).length
theorem tr_first (w : World) (g gl gn m n : Nat) (L : Nat → List Nat) (h : TR w g gl gn m n L) (i : Int) : Calls Try.prog 17 #[ptr g, .int .i64 i] w fun e w' => e = .returned (.int .i64 (firstT m L i)) ∧ w = w' := by
  obtain ⟨F, E, M, P, X, O, hr, hg⟩ := h
  unfold firstT
  by_cases g0 : i < 0 ∨ (m : Int) ≤ i
  · rw [if_pos g0]; exact first_out w g gl gn m n F E M P X O hr g0
  · obtain ⟨j, rfl⟩ : ∃ j : Nat, i = j := ⟨i.toNat, by omega⟩
    rw [if_neg g0, Int.toNat_natCast, ← hg.first j (by omega)]
    exact first_in w g gl gn m n F E M P X O hr (by omega)
theorem tr_last (w : World) (g gl gn m n : Nat) (L : Nat → List Nat) (h : TR w g gl gn m n L) (i : Int) : Calls Try.prog 21 #[ptr g, .int .i64 i] w fun e w' => e = .returned (.int .i64 (lastT m L i)) ∧ w = w' := by
  obtain ⟨F, E, M, P, X, O, hr, hg⟩ := h
  unfold lastT
  by_cases g0 : i < 0 ∨ (m : Int) ≤ i
  · rw [if_pos g0]; exact last_out w g gl gn m n F E M P X O hr g0
  · obtain ⟨j, rfl⟩ : ∃ j : Nat, i = j := ⟨i.toNat, by omega⟩
    rw [if_neg g0, Int.toNat_natCast, ← hg.last j (by omega)]
    exact last_in w g gl gn m n F E M P X O hr (by omega)
theorem tr_len (w : World) (g gl gn m n : Nat) (L : Nat → List Nat) (h : TR w g gl gn m n L) (i : Int) : Calls Try.prog 11 #[ptr g, .int .i64 i] w fun e w' => e = .returned (.int .i64 (lenT m L i)) ∧ w = w' := by
  obtain ⟨F, E, M, P, X, O, hr, hg⟩ := h
  unfold lenT
  by_cases g0 : i < 0 ∨ (m : Int) ≤ i
  · rw [if_pos g0]; exact len_out w g gl gn m n F E M P X O hr g0
  · obtain ⟨j, rfl⟩ : ∃ j : Nat, i = j := ⟨i.toNat, by omega⟩
    rw [if_neg g0, Int.toNat_natCast, ← hg.many j (by omega)]
    exact len_in w g gl gn m n F E M P X O hr (by omega)
/-- the list of a node, and the one behind it -/
inductive OT (m n : Nat) (L : Nat → List Nat) (x : Int) : Int → Int → Prop
  | far : (x < 0 ∨ (n : Int) ≤ x) → OT m n L x (-1) (-1)
  | none (y : Nat) : x = y → y < n → inB m L y = false → OT m n L x (-1) (-1)
  | some (y i : Nat) (a b : List Nat) : x = y → y < n → i < m → L i = a ++ y :: b → y ∉ a → (∀ j, j < m → j ≠ i → y ∉ L j) → OT m n L x i (hdq b (-1))
theorem tr_node (w : World) (g gl gn m n : Nat) (L : Nat → List Nat) (h : TR w g gl gn m n L) (x : Int) : ∃ o k, OT m n L x o k ∧ (∀ w', TR w' g gl gn m n L → (∃ F E M P X O, RS w' g gl gn m n F E M P X O ∧ Ring m n L F E M P X O)) := by
  obtain ⟨F, E, M, P, X, O, hr, hg⟩ := h
  by_cases g0 : x < 0 ∨ (n : Int) ≤ x
  · exact ⟨_, _, .far g0, fun w' h => h⟩
  · obtain ⟨y, rfl⟩ : ∃ y : Nat, x = y := ⟨x.toNat, by omega⟩
    cases hin : inB m L y with
    | false => exact ⟨_, _, .none y rfl (by omega) hin, fun w' h => h⟩
    | true =>
      obtain ⟨i, hi, hiy⟩ := inB_iff.1 hin
      obtain ⟨a, b, hL, hna⟩ := mem_split (L i) hiy
      exact ⟨_, _, .some y i a b rfl (by omega) hi hL hna (fun j hj hne hm => hne (hg.apart hj hi hm hiy)), fun w' h => h⟩
theorem tr_of (w : World) (g gl gn m n : Nat) (L : Nat → List Nat) (h : TR w g gl gn m n L) (x o k : Int) (ho : OT m n L x o k) : Calls Try.prog 12 #[ptr g, .int .i64 x] w fun e w' => e = .returned (.int .i64 o) ∧ w = w' := by
  obtain ⟨F, E, M, P, X, O, hr, hg⟩ := h
  cases ho with
  | far g0 => exact of_out w g gl gn m n F E M P X O hr g0
  | none y e hy hin =>
    subst e
    rw [← (hg.out y hy (inB_no.1 hin)).1]
    exact of_in w g gl gn m n F E M P X O hr hy
  | some y i a b e hy hi hL hna _ =>
    subst e
    rw [← hg.of i hi y (by rw [hL]; simp)]
    exact of_in w g gl gn m n F E M P X O hr hy
theorem tr_next (w : World) (g gl gn m n : Nat) (L : Nat → List Nat) (h : TR w g gl gn m n L) (x o k : Int) (ho : OT m n L x o k) : Calls Try.prog 18 #[ptr g, .int .i64 x] w fun e w' => e = .returned (.int .i64 k) ∧ w = w' := by
  obtain ⟨F, E, M, P, X, O, hr, hg⟩ := h
  cases ho with
  | far g0 => exact next_out w g gl gn m n F E M P X O hr g0
  | none y e hy hin =>
    subst e
    rw [← (hg.out y hy (inB_no.1 hin)).2]
    exact next_in w g gl gn m n F E M P X O hr hy
  | some y i a b e hy hi hL hna _ =>
    subst e
    rw [← (hg.split hi hL).2.1]
    exact next_in w g gl gn m n F E M P X O hr hy
end Go.Proofs.Ythjbggdcninckaa
