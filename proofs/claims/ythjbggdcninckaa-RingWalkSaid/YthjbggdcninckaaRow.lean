/- A block of memory as a function of its cells. -/
import Derived.Test.YthjbggdcninckaaFrame
namespace Go.Proofs.Ythjbggdcninckaa
open Go.RowKit

def Row (w : World) (g : Nat) (t : TypeId) (f : Nat → Value) (n : Nat) : Prop := ∃ cs : Array Value, w.heap[g]? = some (.cells cs t (0, 0)) ∧ cs.size = n ∧ ∀ i, i < n → cs[i]? = some (f i)
theorem row_cell {w : World} {g : Nat} {t : TypeId} {f : Nat → Value} {n i : Nat} (h : Row w g t f n) (hi : i < n) : w.cell? ⟨g, i, none⟩ = some (f i) := by
  obtain ⟨cs, hb, _, hc⟩ := h
  rw [blk_cell hb i]; exact hc i hi
theorem row_frozen {w : World} {g : Nat} {t : TypeId} {f : Nat → Value} {n : Nat} (h : Row w g t f n) (i : Nat) : w.frozen? ⟨g, i, none⟩ = false := by
  obtain ⟨cs, hb, _, _⟩ := h
  exact blk_frozen hb i
theorem row_lt {w : World} {g : Nat} {t : TypeId} {f : Nat → Value} {n : Nat} (h : Row w g t f n) : g < w.heap.size := by
  obtain ⟨cs, hb, _, _⟩ := h
  exact blk_lt hb
theorem row_set {w : World} {g : Nat} {t : TypeId} {f : Nat → Value} {n : Nat} (h : Row w g t f n) (i : Nat) (v : Value) : Row (w.setCell ⟨g, i, none⟩ v) g t (fun j => if j = i then v else f j) n := by
  obtain ⟨cs, hb, hs, hc⟩ := h
  refine ⟨_, blk_set hb i v, by simpa using hs, fun j hj => ?_⟩
  rw [Array.getElem?_setIfInBounds]
  by_cases e : i = j
  · subst e; simp [hs, hj]
  · have e' : ¬ j = i := fun h => e h.symm
    simp only [if_neg e, if_neg e']; exact hc j hj
theorem row_far {w : World} {g : Nat} {t : TypeId} {f : Nat → Value} {n : Nat} (h : Row w g t f n) {p : Addr} (hp : g ≠ p.block) (v : Value) : Row (w.setCell p v) g t f n := by
  obtain ⟨cs, hb, hs, hc⟩ := h
  exact ⟨cs, blk_far hb hp v, hs, hc⟩
theorem row_keep {S : Nat → Prop} {w w' : World} {g : Nat} {t : TypeId} {f : Nat → Value} {n : Nat} (h : Row w g t f n) (k : Keep S w w') (hS : ¬ S g) : Row w' g t f n := by
  obtain ⟨cs, hb, hs, hc⟩ := h
  exact ⟨cs, k.blk hb hS, hs, hc⟩
theorem row_below {B : Nat} {w w' : World} {g : Nat} {t : TypeId} {f : Nat → Value} {n : Nat} (h : Row w g t f n) (k : Below B w w') (hB : g < B) : Row w' g t f n := by
  obtain ⟨cs, hb, hs, hc⟩ := h
  exact ⟨cs, below_blk k hb hB, hs, hc⟩
theorem row_ext {w : World} {g : Nat} {t : TypeId} {f f' : Nat → Value} {n : Nat} (h : Row w g t f n) (e : ∀ i, i < n → f i = f' i) : Row w g t f' n := by
  obtain ⟨cs, hb, hs, hc⟩ := h
  exact ⟨cs, hb, hs, fun i hi => by rw [hc i hi, e i hi]⟩
theorem row_new (w : World) (cs : Array Value) (t : TypeId) (f : Nat → Value) (n : Nat) (hs : cs.size = n) (hc : ∀ i, i < n → cs[i]? = some (f i)) : Row (w.alloc (.cells cs t)) w.heap.size t f n := ⟨cs, blk_new _ _, hs, hc⟩
def upd (f : Nat → Int) (i : Nat) (v : Int) : Nat → Int := fun j => if j = i then v else f j
end Go.Proofs.Ythjbggdcninckaa
