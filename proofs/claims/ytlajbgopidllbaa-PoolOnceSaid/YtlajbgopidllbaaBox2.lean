/- Two slices that grow side by side in a box of two. -/
import Derived.Test.YtlajbgopidllbaaGrow
import Derived.Maps.AppendAt
namespace Go.Proofs.Ytlajbgopidllbaa
open Go.RowKit

theorem own_succ {W : World} {base : Nat} {e : TypeId} {size : Nat} {v : Value} {k : Nat} {xs : List Value} (h : W.ownsRow base e size v (k + 1) xs) : ∃ g cap, v = .slice (some ⟨g, 0, none⟩) (k + 1) cap := by
  obtain ⟨g, cap, rfl, _⟩ := own_reads h (by omega)
  exact ⟨g, cap, rfl⟩
theorem new_cells_set (w : World) (p : Addr) (v : Value) (l : List Value) (t : TypeId) : ∀ j u, l[j]? = some u → ((w.setCell p v).alloc (.cells l.toArray t)).cell? ((⟨w.heap.size, 0, none⟩ : Addr).add j) = some u := by
  intro j u h
  have := new_cells (w.setCell p v) l t j u h
  rw [World.size_setCell] at this
  exact this
def Apart (v u : Value) : Prop := ∀ k, v.ownBlock = some k → u.ownBlock ≠ some k
theorem Apart.symm {v u : Value} (h : Apart v u) : Apart u v := fun k h1 h2 => h k h2 h1

theorem box2_fst {W w2 : World} {g0 base : Nat} {tb e e' : TypeId} {size size' k m j : Nat} {v u v' : Value} {xs ys us : List Value} {tmp : Obj} (hb : W.heap[g0]? = some (.cells #[v, u] tb (0, 0)))
    (hv : W.ownsRow base e size v k xs) (hu : W.ownsRow base e' size' u j us) (hg : g0 < base) (hap : Apart v u)
    (hgrow : (W.alloc tmp).grownBy w2 v.ownBlock) (hown : w2.ownsRow base e size v' m ys) (hat : v'.ownBlock = v.ownBlock ∨ v'.ownBlock = some (W.alloc tmp).heap.size) :
    w2.heap[g0]? = some (.cells #[v, u] tb (0, 0)) ∧ (w2.setCell ⟨g0, 0, none⟩ v').heap[g0]? = some (.cells #[v', u] tb (0, 0)) ∧ (w2.setCell ⟨g0, 0, none⟩ v').ownsRow base e size v' m ys ∧
      (w2.setCell ⟨g0, 0, none⟩ v').ownsRow base e' size' u j us ∧ Apart v' u ∧ Keep (fun i => i = g0 ∨ v.ownBlock = some i) W (w2.setCell ⟨g0, 0, none⟩ v') := by
  have hk := keep_of_grown hgrow
  have h1 : w2.heap[g0]? = some (.cells #[v, u] tb (0, 0)) := hk.blk (blk_alloc hb tmp) (fun h => by have := (hv.lt g0 h).1; omega)
  have h2 : w2.ownsRow base e' size' u j us := own_keep (hu.alloc tmp) hk (fun i hi h => hap i h hi)
  refine ⟨h1, blk_set h1 0 v', own_keep hown ((Keep.refl (· = g0) w2).setCell (.inl rfl) v') (fun i hi e => by have := (hown.lt i hi).1; omega), own_keep h2 ((Keep.refl (· = g0) w2).setCell (.inl rfl) v') (fun i hi e => by have := (h2.lt i hi).1; omega), ?_, ?_⟩
  · rcases hat with h | h
    · intro i hi; rw [h] at hi; exact hap i hi
    · intro i hi hi'
      rw [h] at hi
      have e1 := Option.some.inj hi
      have := (hu.lt i hi').2
      simp at e1
      omega
  · have h3 : Keep (fun i => i = g0 ∨ v.ownBlock = some i) W w2 := ((Keep.refl (fun i => i = g0 ∨ v.ownBlock = some i) W).alloc tmp).then hk (fun i hi => .inl (.inr hi))
    exact h3.setCell (.inl (.inl rfl)) v'
theorem box2_snd {W w2 : World} {g0 base : Nat} {tb e e' : TypeId} {size size' k m j : Nat} {v u v' : Value} {xs ys us : List Value} {tmp : Obj} (hb : W.heap[g0]? = some (.cells #[u, v] tb (0, 0)))
    (hv : W.ownsRow base e size v k xs) (hu : W.ownsRow base e' size' u j us) (hg : g0 < base) (hap : Apart v u)
    (hgrow : (W.alloc tmp).grownBy w2 v.ownBlock) (hown : w2.ownsRow base e size v' m ys) (hat : v'.ownBlock = v.ownBlock ∨ v'.ownBlock = some (W.alloc tmp).heap.size) :
    w2.heap[g0]? = some (.cells #[u, v] tb (0, 0)) ∧ (w2.setCell ⟨g0, 1, none⟩ v').heap[g0]? = some (.cells #[u, v'] tb (0, 0)) ∧ (w2.setCell ⟨g0, 1, none⟩ v').ownsRow base e size v' m ys ∧
      (w2.setCell ⟨g0, 1, none⟩ v').ownsRow base e' size' u j us ∧ Apart v' u ∧ Keep (fun i => i = g0 ∨ v.ownBlock = some i) W (w2.setCell ⟨g0, 1, none⟩ v') := by
  have hk := keep_of_grown hgrow
  have h1 : w2.heap[g0]? = some (.cells #[u, v] tb (0, 0)) := hk.blk (blk_alloc hb tmp) (fun h => by have := (hv.lt g0 h).1; omega)
  have h2 : w2.ownsRow base e' size' u j us := own_keep (hu.alloc tmp) hk (fun i hi h => hap i h hi)
  refine ⟨h1, blk_set h1 1 v', own_keep hown ((Keep.refl (· = g0) w2).setCell (.inl rfl) v') (fun i hi e => by have := (hown.lt i hi).1; omega), own_keep h2 ((Keep.refl (· = g0) w2).setCell (.inl rfl) v') (fun i hi e => by have := (h2.lt i hi).1; omega), ?_, ?_⟩
  · rcases hat with h | h
    · intro i hi; rw [h] at hi; exact hap i hi
    · intro i hi hi'
      rw [h] at hi
      have e1 := Option.some.inj hi
      have := (hu.lt i hi').2
      simp at e1
      omega
  · have h3 : Keep (fun i => i = g0 ∨ v.ownBlock = some i) W w2 := ((Keep.refl (fun i => i = g0 ∨ v.ownBlock = some i) W).alloc tmp).then hk (fun i hi => .inl (.inr hi))
    exact h3.setCell (.inl (.inl rfl)) v'
end Go.Proofs.Ytlajbgopidllbaa
