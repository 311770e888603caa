/- Lists of one-cell values that are read, in a box with others. -/
import Derived.Test.YthjbggdcninckaaLV
import Derived.Maps.AppendAt
namespace Go.Proofs.Ythjbggdcninckaa
open Go.RowKit

/-- a list of values, by where it lies: nil or cells -/
def VV (B : Nat → Prop) (w : World) (v : Value) (l : List Value) : Prop := ∃ (a : Option Addr) (c : Nat), v = .slice a l.length c ∧ l.length ≤ c ∧ c ≤ maxLen ∧ (a = none → c = 0) ∧ (l.length = 0 ∨ ∃ b off, a = some ⟨b, off, none⟩ ∧ B b ∧ ∀ i u, l[i]? = some u → w.cell? ⟨b, off + i, none⟩ = some u)
theorem VV.keepS {S : Nat → Prop} {B : Nat → Prop} {w w' : World} {v : Value} {l : List Value} (h : VV B w v l) (k : Keep S w w') (hS : ∀ i, B i → ¬ S i) : VV B w' v l := by
  obtain ⟨a, c, h1, h2, h3, h4, h5⟩ := h
  refine ⟨a, c, h1, h2, h3, h4, ?_⟩
  rcases h5 with h5 | ⟨b, off, ha, hb, h5⟩
  · exact .inl h5
  · refine .inr ⟨b, off, ha, hb, fun i u hi => ?_⟩
    have h6 := h5 i u hi
    have hlt := World.block_lt_of_cell? w _ h6
    have e := k.block b hlt (hS b hb)
    rw [← h6]
    simp only [World.cell?, e]
theorem VV.keep {B : Nat → Prop} {w w' : World} {v : Value} {l : List Value} (h : VV B w v l) (k : Below w.heap.size w w') : VV B w' v l :=
  h.keepS (Keep.of_below k) (fun _ _ h => h)
theorem VV.drew {B : Nat → Prop} {w : World} {v : Value} {l : List Value} (h : VV B w v l) : VV B w.drew v l := h.keep (below_drew (Below.refl _ _))
theorem VV.mono {B B' : Nat → Prop} {w : World} {v : Value} {l : List Value} (h : VV B w v l) (hB : ∀ i, B i → B' i) : VV B' w v l := by
  obtain ⟨a, c, h1, h2, h3, h4, h5⟩ := h
  refine ⟨a, c, h1, h2, h3, h4, ?_⟩
  rcases h5 with h5 | ⟨b, off, ha, hb, h5⟩
  · exact .inl h5
  · exact .inr ⟨b, off, ha, hB b hb, h5⟩
/-- what is read lies in the world -/
theorem VV.lt {B : Nat → Prop} {w : World} {v : Value} {l : List Value} (h : VV B w v l) : VV (fun i => B i ∧ i < w.heap.size) w v l := by
  obtain ⟨a, c, h1, h2, h3, h4, h5⟩ := h
  refine ⟨a, c, h1, h2, h3, h4, ?_⟩
  rcases h5 with h5 | ⟨b, off, ha, hb, h5⟩
  · exact .inl h5
  · by_cases h0 : l.length = 0
    · exact .inl h0
    · have hl : l[0]? = some (l[0]'(by omega)) := by simp
      exact .inr ⟨b, off, ha, ⟨hb, World.block_lt_of_cell? w _ (h5 0 _ hl)⟩, h5⟩
theorem vv_readV {B : Nat → Prop} {w : World} {v : Value} {l : List Value} (h : VV B w v l) : ReadV w v l.length l := by
  obtain ⟨a, c, rfl, h2, _, h3, h4⟩ := h
  cases a with
  | none =>
    have h0 := h3 rfl
    have hl : l.length = 0 := by omega
    have : l = [] := List.eq_nil_of_length_eq_zero hl
    subst this
    subst h0
    exact .inl ⟨rfl, rfl, rfl⟩
  | some ad =>
    refine .inr ⟨ad, c, rfl, fun j u hj => ?_⟩
    rcases h4 with h | ⟨b, off, hb, _, h⟩
    · have : l = [] := List.eq_nil_of_length_eq_zero h
      subst this
      simp at hj
    · cases hb
      rw [WideShapes.add_plain]
      exact h j u hj
theorem vv_of_own {B : Nat → Prop} {w : World} {base : Nat} {e : TypeId} {v : Value} {n : Nat} {l : List Value} (h : w.ownsRow base e 1 v n l) (hB : ∀ i, base ≤ i → B i) : VV B w v l := by
  have hn : l.length = n := by have := h.1; omega
  subst hn
  obtain ⟨h1, h2 | ⟨g, cap, cur, rfl, hb, hgg, hc, hm, hs, htake⟩⟩ := h
  · obtain ⟨rfl, h0⟩ := h2
    exact ⟨none, 0, by rw [h0], by omega, Nat.zero_le _, fun _ => rfl, .inl h0⟩
  · refine ⟨_, cap, rfl, hc, hm, nofun, .inr ⟨g, 0, rfl, hB g hb, fun i u hi => ?_⟩⟩
    have h' : w.ownsRow base e 1 (.slice (some ⟨g, 0, none⟩) l.length cap) l.length l := ⟨h1, .inr ⟨g, cap, cur, rfl, hb, hgg, hc, hm, hs, htake⟩⟩
    have := h'.cells (g := g) rfl i u hi
    rw [WideShapes.add_plain] at this
    exact this
theorem VV.elemS {B : Nat → Prop} {w : World} {a : Option Addr} {n c : Nat} {l : List Value} (h : VV B w (.slice a n c) l) {k : Nat} {u : Value} (hk : l[k]? = some u) : ∃ b off, a = some ⟨b, off, none⟩ ∧ n ≤ c ∧ c ≤ 9223372036854775807 ∧ ∀ wr, Below w.heap.size w wr → wr.cell? ⟨b, off + k, none⟩ = some u := by
  obtain ⟨a', c', e, hc, hm, _, h4⟩ := h
  injection e with e1 e2 e3
  subst e1 e2 e3
  rcases h4 with h | ⟨b, off, rfl, _, h⟩
  · have : l = [] := List.eq_nil_of_length_eq_zero h
    subst this
    simp at hk
  · exact ⟨b, off, rfl, hc, hm, fun wr k' => (k'.cell (p := ⟨b, off + k, none⟩) (World.block_lt_of_cell? w _ (h k u hk))).trans (h k u hk)⟩
theorem vv_nil (B : Nat → Prop) (w : World) : VV B w (.slice none 0 0) [] := ⟨none, 0, rfl, Nat.le_refl _, Nat.zero_le _, fun _ => rfl, .inl rfl⟩
theorem VV.slice {B : Nat → Prop} {w : World} {v : Value} {l : List Value} (h : VV B w v l) : ∃ a c, v = .slice a l.length c ∧ l.length ≤ c ∧ c ≤ 9223372036854775807 := by
  obtain ⟨a, c, rfl, h1, h2, _⟩ := h
  exact ⟨a, c, rfl, h1, h2⟩
/-- a list behind its first one -/
theorem VV.tail {B : Nat → Prop} {w : World} {b off c n : Nat} {x : Value} {l : List Value} (h : VV B w (.slice (some ⟨b, off, none⟩) n c) (x :: l)) (hc : 1 < c) : VV B w (.slice (some ⟨b, off + 1, none⟩) (n - 1) (c - 1)) l := by
  obtain ⟨a, c', e, h2, h3, h4, h5⟩ := h
  cases e
  simp only [List.length_cons] at h2 h3 h5 ⊢
  refine ⟨some ⟨b, off + 1, none⟩, c - 1, by rw [Nat.add_sub_cancel], by omega, by omega, nofun, ?_⟩
  rcases h5 with h5 | ⟨b', off', e, hb, h5⟩
  · omega
  · cases e
    refine .inr ⟨b, off + 1, rfl, hb, fun i u hi => ?_⟩
    rw [show off + 1 + i = off + (i + 1) from by omega]
    exact h5 (i + 1) u hi
theorem VV.tail1 {B : Nat → Prop} {w : World} {b off n : Nat} {x : Value} {l : List Value} (h : VV B w (.slice (some ⟨b, off, none⟩) n 1) (x :: l)) : l = [] ∧ VV B w (.slice (some ⟨b, off, none⟩) 0 0) l := by
  obtain ⟨a, c', e, h2, h3, h4, h5⟩ := h
  cases e
  have : l = [] := List.eq_nil_of_length_eq_zero (by simp only [List.length_cons] at h2; omega)
  subst this
  exact ⟨rfl, _, _, rfl, Nat.le_refl _, Nat.zero_le _, nofun, .inl rfl⟩

/-- a function's values up to n -/
def col (f : Nat → Value) (n : Nat) : List Value := (List.range n).map f
theorem col_len (f : Nat → Value) (n : Nat) : (col f n).length = n := by simp [col]
theorem col_get (f : Nat → Value) (n i : Nat) (h : i < n) : (col f n)[i]? = some (f i) := by simp [col, h]
theorem col_succ (f : Nat → Value) (n : Nat) : col f n ++ [f n] = col f (n + 1) := by unfold col; rw [List.range_succ, List.map_append]; rfl
theorem col_set (f : Nat → Value) (n i : Nat) (v : Value) : (col f n).set i v = col (fun j => if j = i then v else f j) n := by
  apply List.ext_getElem?
  intro j
  rw [List.getElem?_set]
  by_cases hj : j < n
  · rw [col_get _ _ _ hj]
    by_cases e : i = j
    · subst e; rw [if_pos rfl, if_pos (by rw [col_len]; exact hj), col_get _ _ _ hj, if_pos rfl]
    · rw [if_neg e, col_get _ _ _ hj, if_neg (fun h => e h.symm)]
  · have h1 : (col (fun j => if j = i then v else f j) n)[j]? = none := List.getElem?_eq_none (by rw [col_len]; omega)
    have h2 : (col f n)[j]? = none := List.getElem?_eq_none (by rw [col_len]; omega)
    rw [h1, h2, col_len]
    split
    · rw [if_neg (by omega)]
    · rfl
theorem col_congr {f f' : Nat → Value} {n : Nat} (h : ∀ i, i < n → f i = f' i) : col f n = col f' n := by
  unfold col
  apply List.map_congr_left
  intro i hi
  exact h i (by simpa using hi)

theorem own_setV {w : World} {base g n cap i : Nat} {e : TypeId} {l : List Value} (x : Value) (h : w.ownsRow base e 1 (.slice (some ⟨g, 0, none⟩) n cap) n l) :
    (w.setCell ⟨g, i, none⟩ x).ownsRow base e 1 (.slice (some ⟨g, 0, none⟩) n cap) n (l.set i x) := by
  obtain ⟨h1, h2 | ⟨g', cap', cur, e, hb, hgg, hc, hm, hs, htake⟩⟩ := h
  · obtain ⟨h2, _⟩ := h2; cases h2
  · cases e
    refine ⟨by simpa using h1, .inr ⟨g, cap, cur.setIfInBounds i x, rfl, hb, blk_set hgg i _, hc, hm, by simpa using hs, ?_⟩⟩
    rw [Array.toList_setIfInBounds, List.take_set, htake]
theorem own_headV {w : World} {B n : Nat} {e : TypeId} {v : Value} {l : List Value} (h : w.ownsRow B e 1 v n l) (h0 : 0 < n) : ∃ g cap, v = .slice (some ⟨g, 0, none⟩) n cap ∧ B ≤ g ∧ g < w.heap.size ∧ n ≤ cap ∧ cap ≤ 9223372036854775807 ∧ (∀ (i : Nat) (u : Value), l[i]? = some u → w.cell? ⟨g, i, none⟩ = some u) ∧ ∀ i, w.frozen? ⟨g, i, none⟩ = false := by
  obtain ⟨g, cap, rfl, hg, hlt, hc, hm, hx⟩ := own_reads h h0
  exact ⟨g, cap, rfl, hg, hlt, hc, hm, hx, own_frozen h⟩
theorem own_succ {W : World} {base : Nat} {e : TypeId} {size : Nat} {v : Value} {k : Nat} {xs : List Value} (h : W.ownsRow base e size v (k + 1) xs) : ∃ g cap, v = .slice (some ⟨g, 0, none⟩) (k + 1) cap := by
  obtain ⟨g, cap, rfl, _⟩ := own_reads h (by omega)
  exact ⟨g, cap, rfl⟩
theorem own_oneV (w : World) (B : Nat) (e : TypeId) (x : Value) (hb : B ≤ w.heap.size) : (w.alloc (.cells #[x] e)).ownsRow B e 1 (.slice (some ⟨w.heap.size, 0, none⟩) 1 1) 1 [x] :=
  ⟨rfl, .inr ⟨w.heap.size, 1, #[x], rfl, hb, blk_new _ _, Nat.le_refl _, by unfold maxLen; omega, rfl, rfl⟩⟩
theorem new_cells_set (w : World) (p : Addr) (v : Value) (l : List Value) (t : TypeId) : ∀ j u, l[j]? = some u → ((w.setCell p v).alloc (.cells l.toArray t)).cell? ((⟨w.heap.size, 0, none⟩ : Addr).add j) = some u := by
  intro j u h
  have := new_cells (w.setCell p v) l t j u h
  rw [World.size_setCell] at this
  exact this
def Apart (v u : Value) : Prop := ∀ k, v.ownBlock = some k → u.ownBlock ≠ some k
theorem Apart.symm {v u : Value} (h : Apart v u) : Apart u v := fun k h1 h2 => h k h2 h1
theorem apart_nil (u : Value) : Apart (.slice none 0 0) u := fun k h => by simp [Value.ownBlock] at h

/-- one of three columns of a box grows -/
theorem box_grow {W w2 : World} {g0 base : Nat} {tb e e1 e2 : TypeId} {s0 s1 s2 k m j1 j2 : Nat} {cs : Array Value} {v u1 u2 v' : Value} {xs ys us1 us2 : List Value} {tmp : Obj} (i : Nat) (hb : W.heap[g0]? = some (.cells cs tb (0, 0)))
    (hv : W.ownsRow base e s0 v k xs) (hu1 : W.ownsRow base e1 s1 u1 j1 us1) (hu2 : W.ownsRow base e2 s2 u2 j2 us2) (hg : g0 < base) (hap1 : Apart v u1) (hap2 : Apart v u2)
    (hgrow : (W.alloc tmp).grownBy w2 v.ownBlock) (hown : w2.ownsRow base e s0 v' m ys) (hat : v'.ownBlock = v.ownBlock ∨ v'.ownBlock = some (W.alloc tmp).heap.size) :
    w2.heap[g0]? = some (.cells cs tb (0, 0)) ∧ (w2.setCell ⟨g0, i, none⟩ v').heap[g0]? = some (.cells (cs.setIfInBounds i v') tb (0, 0)) ∧ (w2.setCell ⟨g0, i, none⟩ v').ownsRow base e s0 v' m ys ∧
      (w2.setCell ⟨g0, i, none⟩ v').ownsRow base e1 s1 u1 j1 us1 ∧ (w2.setCell ⟨g0, i, none⟩ v').ownsRow base e2 s2 u2 j2 us2 ∧ Apart v' u1 ∧ Apart v' u2 ∧ Keep (fun i => i = g0 ∨ v.ownBlock = some i) W (w2.setCell ⟨g0, i, none⟩ v') := by
  have hk := keep_of_grown hgrow
  have h1 : w2.heap[g0]? = some (.cells cs tb (0, 0)) := hk.blk (blk_alloc hb tmp) (fun h => by have := (hv.lt g0 h).1; omega)
  have h2 : w2.ownsRow base e1 s1 u1 j1 us1 := own_keep (hu1.alloc tmp) hk (fun i hi h => hap1 i h hi)
  have h3 : w2.ownsRow base e2 s2 u2 j2 us2 := own_keep (hu2.alloc tmp) hk (fun i hi h => hap2 i h hi)
  refine ⟨h1, blk_set h1 i v', own_keep hown ((Keep.refl (· = g0) w2).setCell (.inl rfl) v') (fun i hi e => by have := (hown.lt i hi).1; omega), own_keep h2 ((Keep.refl (· = g0) w2).setCell (.inl rfl) v') (fun i hi e => by have := (h2.lt i hi).1; omega), own_keep h3 ((Keep.refl (· = g0) w2).setCell (.inl rfl) v') (fun i hi e => by have := (h3.lt i hi).1; omega), ?_, ?_, ?_⟩
  · rcases hat with h | h
    · intro i hi; rw [h] at hi; exact hap1 i hi
    · intro i hi hi'
      rw [h] at hi
      have e1 := Option.some.inj hi
      have := (hu1.lt i hi').2
      simp at e1
      omega
  · rcases hat with h | h
    · intro i hi; rw [h] at hi; exact hap2 i hi
    · intro i hi hi'
      rw [h] at hi
      have e1 := Option.some.inj hi
      have := (hu2.lt i hi').2
      simp at e1
      omega
  · have h4 : Keep (fun i => i = g0 ∨ v.ownBlock = some i) W w2 := ((Keep.refl (fun i => i = g0 ∨ v.ownBlock = some i) W).alloc tmp).then hk (fun i hi => .inl (.inr hi))
    exact h4.setCell (.inl (.inl rfl)) v'
end Go.Proofs.Ythjbggdcninckaa
