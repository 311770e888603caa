/- Lists of nodes by links, in plain terms: what a push, and a drop, keeps (no program in sight). -/
import Derived.Test.YthjbggdcninckaaRow
namespace Go.Proofs.Ythjbggdcninckaa
set_option linter.unusedVariables false

def hdq (l : List Nat) (q : Int) : Int := match l with
  | [] => q
  | y :: _ => y
def laq : Int → List Nat → Int
  | p, [] => p
  | _, x :: l => laq x l
def Link (P X : Nat → Int) : Int → List Nat → Int → Prop
  | _, [], _ => True
  | p, x :: l, q => P x = p ∧ X x = hdq l q ∧ Link P X x l q
theorem hdq_app (a b : List Nat) (q : Int) : hdq (a ++ b) q = hdq a (hdq b q) := by cases a <;> rfl
theorem laq_app : ∀ (a b : List Nat) (p : Int), laq p (a ++ b) = laq (laq p a) b
  | [], _, _ => rfl
  | x :: a, b, p => laq_app a b x
theorem laq_snoc (a : List Nat) (y : Nat) (p : Int) : laq p (a ++ [y]) = y := by rw [laq_app]; rfl
theorem link_app (P X : Nat → Int) : ∀ (a b : List Nat) (p q : Int), Link P X p (a ++ b) q ↔ Link P X p a (hdq b q) ∧ Link P X (laq p a) b q
  | [], b, p, q => by simp [Link, laq]
  | x :: a, b, p, q => by
    simp only [List.cons_append, Link, laq, hdq_app]
    rw [link_app P X a b x q]
    constructor
    · rintro ⟨h1, h2, h3, h4⟩; exact ⟨⟨h1, h2, h3⟩, h4⟩
    · rintro ⟨⟨h1, h2, h3⟩, h4⟩; exact ⟨h1, h2, h3, h4⟩
theorem link_congr {P X P' X' : Nat → Int} : ∀ (l : List Nat) (p q : Int), (∀ x, x ∈ l → P' x = P x ∧ X' x = X x) → Link P X p l q → Link P' X' p l q
  | [], _, _, _, _ => trivial
  | x :: l, p, q, h, ⟨h1, h2, h3⟩ => by
    obtain ⟨e1, e2⟩ := h x List.mem_cons_self
    exact ⟨e1.trans h1, e2.trans h2, link_congr l x q (fun y hy => h y (List.mem_cons_of_mem _ hy)) h3⟩
theorem upd_same {f : Nat → Int} {i : Nat} {v : Int} : upd f i v i = v := by unfold upd; rw [if_pos rfl]
theorem upd_other {f : Nat → Int} {i j : Nat} {v : Int} (h : j ≠ i) : upd f i v j = f j := by unfold upd; rw [if_neg h]
theorem link_setX {P X : Nat → Int} {a : List Nat} {y : Nat} {p q q' : Int} (hy : y ∉ a) (h : Link P X p (a ++ [y]) q) : Link P (upd X y q') p (a ++ [y]) q' := by
  rw [link_app] at h ⊢
  obtain ⟨h1, h2, h3, _⟩ := h
  exact ⟨link_congr a _ _ (fun x hx => ⟨rfl, upd_other (fun e => hy (e ▸ hx))⟩) h1, h2, upd_same, trivial⟩
theorem link_setP {P X : Nat → Int} {b : List Nat} {y : Nat} {p p' q : Int} (hy : y ∉ b) (h : Link P X p (y :: b) q) : Link (upd P y p') X p' (y :: b) q := by
  obtain ⟨h1, h2, h3⟩ := h
  exact ⟨upd_same, h2, link_congr b _ _ (fun x hx => ⟨upd_other (fun e => hy (e ▸ hx)), rfl⟩) h3⟩

structure Ring (m n : Nat) (L : Nat → List Nat) (F E M P X O : Nat → Int) : Prop where
  nodup : ∀ i, i < m → (L i).Nodup
  lt : ∀ i, i < m → ∀ x, x ∈ L i → x < n
  of : ∀ i, i < m → ∀ x, x ∈ L i → O x = i
  out : ∀ x, x < n → (∀ i, i < m → x ∉ L i) → O x = -1 ∧ X x = -1
  first : ∀ i, i < m → F i = hdq (L i) (-1)
  last : ∀ i, i < m → E i = laq (-1) (L i)
  many : ∀ i, i < m → M i = (L i).length
  link : ∀ i, i < m → Link P X (-1) (L i) (-1)
theorem Ring.apart {m n : Nat} {L : Nat → List Nat} {F E M P X O : Nat → Int} (h : Ring m n L F E M P X O) {i j x : Nat} (hi : i < m) (hj : j < m) (h1 : x ∈ L i) (h2 : x ∈ L j) : i = j := by
  have e1 := h.of i hi x h1
  have e2 := h.of j hj x h2
  omega
theorem nodup_len : ∀ (n : Nat) (l : List Nat), l.Nodup → (∀ x, x ∈ l → x < n) → l.length ≤ n
  | 0, l, _, h => by
    cases l with
    | nil => exact Nat.le_refl _
    | cons x l => exact absurd (h x List.mem_cons_self) (by omega)
  | n + 1, l, hn, h => by
    by_cases e : n ∈ l
    · have h1 := nodup_len n (l.erase n) (hn.erase n) (fun x hx => by
        have h2 := (hn.mem_erase_iff).1 hx
        have := h x h2.2
        have := h2.1
        omega)
      have h3 := List.length_erase_of_mem e
      omega
    · have := nodup_len n l hn (fun x hx => by
        have := h x hx
        have : x ≠ n := fun e' => e (e' ▸ hx)
        omega)
      omega
theorem Ring.len {m n : Nat} {L : Nat → List Nat} {F E M P X O : Nat → Int} (h : Ring m n L F E M P X O) {i : Nat} (hi : i < m) : (L i).length ≤ n := nodup_len n _ (h.nodup i hi) (h.lt i hi)

def updL (L : Nat → List Nat) (i : Nat) (l : List Nat) : Nat → List Nat := fun j => if j = i then l else L j
theorem updL_same {L : Nat → List Nat} {i : Nat} {l : List Nat} : updL L i l i = l := if_pos rfl
theorem updL_other {L : Nat → List Nat} {i j : Nat} {l : List Nat} (h : j ≠ i) : updL L i l j = L j := if_neg h

/-- a node comes to a list: the links of one end, those of the others -/
theorem Ring.push {m n : Nat} {L : Nat → List Nat} {F E M P X O : Nat → Int} (h : Ring m n L F E M P X O) {i x : Nat} (hi : i < m) (hx : x < n) (hno : ∀ j, j < m → x ∉ L j) {E' P' : Nat → Int}
    (hE : (L i = [] ∧ E' = upd E i x ∧ P' = upd P x (-1)) ∨ (∃ y l, L i = y :: l ∧ E' = E ∧ P' = upd (upd P x (-1)) y x)) :
    Ring m n (updL L i (x :: L i)) (upd F i x) E' (upd M i (M i + 1)) P' (upd X x (F i)) (upd O x i) := by
  have hLi : ∀ j, j < m → j ≠ i → ∀ z, z ∈ L j → z ∉ L i := fun j hj hne z h1 h2 => hne (h.apart hj hi h1 h2)
  refine ⟨fun j hj => ?_, fun j hj z hz => ?_, fun j hj z hz => ?_, fun z hz hzo => ?_, fun j hj => ?_, fun j hj => ?_, fun j hj => ?_, fun j hj => ?_⟩
  · by_cases e : j = i
    · subst e; rw [updL_same]; exact List.nodup_cons.2 ⟨hno j hj, h.nodup j hj⟩
    · rw [updL_other e]; exact h.nodup j hj
  · by_cases e : j = i
    · subst e
      rw [updL_same] at hz
      rcases List.mem_cons.1 hz with rfl | hz
      · exact hx
      · exact h.lt j hj z hz
    · rw [updL_other e] at hz; exact h.lt j hj z hz
  · by_cases e : j = i
    · subst e
      rw [updL_same] at hz
      rcases List.mem_cons.1 hz with rfl | hz
      · exact upd_same
      · rw [upd_other (show z ≠ x from fun e => hno j hj (e ▸ hz))]; exact h.of j hj z hz
    · rw [updL_other e] at hz
      rw [upd_other (show z ≠ x from fun e => hno j hj (e ▸ hz))]; exact h.of j hj z hz
  · have hzi := hzo i hi
    rw [updL_same] at hzi
    have hne : z ≠ x := fun e => hzi (e ▸ List.mem_cons_self)
    rw [upd_other hne, upd_other hne]
    refine h.out z hz (fun j hj => ?_)
    by_cases e : j = i
    · subst e; exact fun hm => hzi (List.mem_cons_of_mem _ hm)
    · have := hzo j hj
      rwa [updL_other e] at this
  · by_cases e : j = i
    · subst e; rw [upd_same, updL_same]; rfl
    · rw [upd_other e, updL_other e]; exact h.first j hj
  · by_cases e : j = i
    · subst e
      rw [updL_same]
      rcases hE with ⟨h1, h2, _⟩ | ⟨y, l, h1, h2, _⟩
      · rw [h2, upd_same, h1]; rfl
      · rw [h2, h.last j hj, h1]; rfl
    · rw [updL_other e]
      rcases hE with ⟨_, h2, _⟩ | ⟨y, l, _, h2, _⟩
      · rw [h2, upd_other e]; exact h.last j hj
      · rw [h2]; exact h.last j hj
  · by_cases e : j = i
    · subst e; rw [upd_same, updL_same, h.many j hj]; simp
    · rw [upd_other e, updL_other e]; exact h.many j hj
  · by_cases e : j = i
    · subst e
      rw [updL_same]
      have hl := h.link j hj
      have hxn := hno j hj
      rcases hE with ⟨h1, _, h3⟩ | ⟨y, l, h1, _, h3⟩
      · rw [h1, h3]
        exact ⟨upd_same, by rw [upd_same, h.first j hj, h1], trivial⟩
      · have hyx : x ≠ y := fun e => hxn (by rw [h1, e]; exact List.mem_cons_self)
        rw [h1] at hl hxn
        rw [h1, h3]
        refine ⟨by rw [upd_other hyx]; exact upd_same, by rw [upd_same, h.first j hj, h1], ?_⟩
        have hnd := h.nodup j hj
        rw [h1] at hnd
        refine link_setP (List.nodup_cons.1 hnd).1 (p := -1) (link_congr _ _ _ (fun z hz => ?_) hl)
        have hzx : z ≠ x := fun e => hxn (e ▸ hz)
        exact ⟨upd_other hzx, upd_other hzx⟩
    · rw [updL_other e]
      refine link_congr _ _ _ (fun z hz => ?_) (h.link j hj)
      have hzx : z ≠ x := fun e => hno j hj (e ▸ hz)
      refine ⟨?_, upd_other hzx⟩
      rcases hE with ⟨_, _, h3⟩ | ⟨y, l, h1, _, h3⟩
      · rw [h3, upd_other hzx]
      · have hzy : z ≠ y := fun e' => hLi j hj e z hz (by rw [h1, e']; exact List.mem_cons_self)
        rw [h3, upd_other hzy, upd_other hzx]

/-- where a node stands -/
theorem Ring.split {m n : Nat} {L : Nat → List Nat} {F E M P X O : Nat → Int} (h : Ring m n L F E M P X O) {i x : Nat} {a b : List Nat} (hi : i < m) (hL : L i = a ++ x :: b) :
    P x = laq (-1) a ∧ X x = hdq b (-1) ∧ x ∉ a ∧ x ∉ b ∧ Link P X (-1) a x ∧ Link P X x b (-1) ∧ a.Nodup ∧ b.Nodup ∧ ∀ z, z ∈ a → z ∉ b := by
  have hl := h.link i hi
  have hn := h.nodup i hi
  rw [hL] at hl hn
  rw [link_app] at hl
  obtain ⟨h1, h2, h3, h4⟩ := hl
  rw [List.nodup_append] at hn
  obtain ⟨n1, n2, n3⟩ := hn
  have n4 := List.nodup_cons.1 n2
  exact ⟨h2, h3, fun hx => n3 x hx x List.mem_cons_self rfl, n4.1, h1, h4, n1, n4.2, fun z hz hz' => n3 z hz z (List.mem_cons_of_mem _ hz') rfl⟩
theorem Ring.drop {m n : Nat} {L : Nat → List Nat} {F E M P X O : Nat → Int} (h : Ring m n L F E M P X O) {i x : Nat} {a b : List Nat} (hi : i < m) (hL : L i = a ++ x :: b) {F' E' P' X' : Nat → Int}
    (hF : (a = [] ∧ F' = upd F i (hdq b (-1)) ∧ X' = X) ∨ (∃ a' y, a = a' ++ [y] ∧ F' = F ∧ X' = upd X y (hdq b (-1))))
    (hE : (b = [] ∧ E' = upd E i (laq (-1) a) ∧ P' = P) ∨ (∃ y b', b = y :: b' ∧ E' = E ∧ P' = upd P y (laq (-1) a))) :
    Ring m n (updL L i (a ++ b)) F' E' (upd M i (M i - 1)) (upd P' x (-1)) (upd X' x (-1)) (upd O x (-1)) := by
  obtain ⟨s1, s2, s3, s4, s5, s6, s7, s8, s9⟩ := h.split hi hL
  have hxi : x ∈ L i := by rw [hL]; simp
  have hmem : ∀ z, z ∈ a ++ b → z ∈ L i ∧ z ≠ x := fun z hz => by
    rw [hL]
    rcases List.mem_append.1 hz with h1 | h1
    · exact ⟨by simp [h1], fun e => s3 (e ▸ h1)⟩
    · exact ⟨by simp [h1], fun e => s4 (e ▸ h1)⟩
  have hap : ∀ j, j < m → j ≠ i → ∀ z, z ∈ L j → z ∉ L i := fun j hj hne z h1 h2 => hne (h.apart hj hi h1 h2)
  refine ⟨fun j hj => ?_, fun j hj z hz => ?_, fun j hj z hz => ?_, fun z hz hzo => ?_, fun j hj => ?_, fun j hj => ?_, fun j hj => ?_, fun j hj => ?_⟩
  · by_cases e : j = i
    · subst e
      rw [updL_same, List.nodup_append]
      exact ⟨s7, s8, fun u hu v hv e => s9 u hu (e ▸ hv)⟩
    · rw [updL_other e]; exact h.nodup j hj
  · by_cases e : j = i
    · subst e
      rw [updL_same] at hz
      exact h.lt j hj z (hmem z hz).1
    · rw [updL_other e] at hz; exact h.lt j hj z hz
  · by_cases e : j = i
    · subst e
      rw [updL_same] at hz
      rw [upd_other (hmem z hz).2]
      exact h.of j hj z (hmem z hz).1
    · rw [updL_other e] at hz
      rw [upd_other (show z ≠ x from fun e' => hap j hj e z hz (e' ▸ hxi))]
      exact h.of j hj z hz
  · by_cases e : z = x
    · subst e; exact ⟨upd_same, upd_same⟩
    · rw [upd_other e, upd_other e]
      have hzo' : ∀ j, j < m → z ∉ L j := fun j hj hm => by
        by_cases e' : j = i
        · subst e'
          have := hzo j hj
          rw [updL_same] at this
          rw [hL] at hm
          rcases List.mem_append.1 hm with h1 | h1
          · exact this (by simp [h1])
          · rcases List.mem_cons.1 h1 with h2 | h2
            · exact e h2
            · exact this (by simp [h2])
        · have := hzo j hj
          rw [updL_other e'] at this
          exact this hm
      obtain ⟨o1, o2⟩ := h.out z hz hzo'
      refine ⟨o1, ?_⟩
      rcases hF with ⟨_, _, h3⟩ | ⟨a', y, h1, _, h3⟩
      · rw [h3]; exact o2
      · have : z ≠ y := fun e' => hzo' i hi (by rw [hL, h1, e']; simp)
        rw [h3, upd_other this]; exact o2
  · by_cases e : j = i
    · subst e
      rw [updL_same, hdq_app]
      rcases hF with ⟨h1, h2, _⟩ | ⟨a', y, h1, h2, _⟩
      · rw [h2, upd_same, h1]; rfl
      · rw [h2, h.first j hj, hL, hdq_app, h1]
        cases a' <;> rfl
    · rw [updL_other e]
      rcases hF with ⟨_, h2, _⟩ | ⟨_, _, _, h2, _⟩
      · rw [h2, upd_other e]; exact h.first j hj
      · rw [h2]; exact h.first j hj
  · by_cases e : j = i
    · subst e
      rw [updL_same, laq_app]
      rcases hE with ⟨h1, h2, _⟩ | ⟨y, b', h1, h2, _⟩
      · rw [h2, upd_same, h1]; rfl
      · rw [h2, h.last j hj, hL, laq_app, h1]; rfl
    · rw [updL_other e]
      rcases hE with ⟨_, h2, _⟩ | ⟨_, _, _, h2, _⟩
      · rw [h2, upd_other e]; exact h.last j hj
      · rw [h2]; exact h.last j hj
  · by_cases e : j = i
    · subst e
      rw [upd_same, updL_same, h.many j hj, hL]
      simp
      omega
    · rw [upd_other e, updL_other e]; exact h.many j hj
  · by_cases e : j = i
    · subst e
      rw [updL_same]
      refine link_congr (P := P') (X := X') _ _ _ (fun z hz => ⟨upd_other (hmem z hz).2, upd_other (hmem z hz).2⟩) ?_
      rw [link_app]
      constructor
      · -- the front
        have hPa : ∀ z, z ∈ a → P' z = P z := fun z hz => by
          rcases hE with ⟨_, _, h3⟩ | ⟨y, b', h1, _, h3⟩
          · rw [h3]
          · rw [h3, upd_other (fun e => s9 z hz (by rw [h1, e]; exact List.mem_cons_self))]
        rcases hF with ⟨h1, _, _⟩ | ⟨a', y, h1, _, h3⟩
        · rw [h1]; exact trivial
        · rw [h1] at s5 s7 hPa ⊢
          rw [h3]
          rw [List.nodup_append] at s7
          refine link_congr (P := P) (X := upd X y (hdq b (-1))) _ _ _ (fun z hz => ⟨hPa z hz, rfl⟩) ?_
          exact link_setX (fun hy => s7.2.2 y hy y (by simp) rfl) s5
      · -- the back
        have hXb : ∀ z, z ∈ b → X' z = X z := fun z hz => by
          rcases hF with ⟨_, _, h3⟩ | ⟨a', y, h1, _, h3⟩
          · rw [h3]
          · rw [h3, upd_other (show z ≠ y from fun e => s9 y (by rw [h1]; simp) (e ▸ hz))]
        rcases hE with ⟨h1, _, _⟩ | ⟨y, b', h1, _, h3⟩
        · rw [h1]; exact trivial
        · rw [h1] at s6 s8 hXb ⊢
          rw [h3]
          refine link_congr (P := upd P y (laq (-1) a)) (X := X) _ _ _ (fun z hz => ⟨rfl, hXb z hz⟩) ?_
          exact link_setP (List.nodup_cons.1 s8).1 s6
    · rw [updL_other e]
      refine link_congr _ _ _ (fun z hz => ?_) (h.link j hj)
      have hzi := hap j hj e z hz
      have hzx : z ≠ x := fun e' => hzi (e' ▸ hxi)
      constructor
      · rw [upd_other hzx]
        rcases hE with ⟨_, _, h3⟩ | ⟨y, b', h1, _, h3⟩
        · rw [h3]
        · rw [h3, upd_other (fun e' => hzi (by rw [hL, h1, e']; simp))]
      · rw [upd_other hzx]
        rcases hF with ⟨_, _, h3⟩ | ⟨a', y, h1, _, h3⟩
        · rw [h3]
        · rw [h3, upd_other (fun e' => hzi (by rw [hL, h1, e']; simp))]
end Go.Proofs.Ythjbggdcninckaa
