/- The law's own example (almerylaw19.awake). -/
import Derived.Test.YtamaocdchlioaaaOp12
import Derived.Test.YtamaocdchlioaaaOp13
import Derived.Laws.IdiomStrings
namespace Go.Proofs.Ytamaocdchlioaaa
open Go.RowKit
set_option linter.unusedVariables false

theorem own_ops (W : World) (B : Nat) (hB : B ≤ W.heap.size) (qs : List (POp × Value)) (hm : qs.length ≤ maxLen) : (W.alloc (.cells (ocells qs).toArray 40)).ownsRow B 40 5 (.slice (some ⟨W.heap.size, 0, none⟩) qs.length qs.length) qs.length (ocells qs) :=
  ⟨ocells_len qs, .inr ⟨W.heap.size, qs.length, (ocells qs).toArray, rfl, hB, blk_new _ _, Nat.le_refl _, hm, by simp [ocells_len], by rw [List.take_of_length_le (by simp [ocells_len])]⟩⟩
theorem lb_x (w : World) : LB (w.alloc (.cells #[.int .u8 120] 5 (1, 2))) (.slice (some ⟨w.heap.size, 0, none⟩) 1 1) [120] := by
  refine ⟨_, 1, rfl, Nat.le_refl _, by unfold maxLen; omega, nofun, .inr ⟨w.heap.size, 0, rfl, fun i hi => ?_⟩⟩
  have h0 : i = 0 := by simp at hi; omega
  subst h0
  rw [World.cell?_alloc_mark]
  rfl
def pT : POp := ⟨6, 0, 0, 0, []⟩
def pW : POp := ⟨4, -1, 0, 0, [120]⟩
def LT : List POp := [pT, pW]
theorem allOk_LT : AllOk LT := by
  intro p hp
  have : p = pT ∨ p = pW := by simpa [LT] using hp
  rcases this with rfl | rfl
  · exact ⟨⟨by decide, by decide, by decide, bytes_nil⟩, by decide⟩
  · exact ⟨⟨by decide, by decide, by decide, bytes_one (by decide)⟩, by decide⟩
theorem allMay_of_ok {l : List POp} (h : AllOk l) : allMay l := fun j hj => by
  have : l.getD j op0 = l[j] := by simp [List.getD, hj]
  rw [this]
  exact (h _ (List.getElem_mem hj)).2
theorem bytes_encL : ∀ l : List POp, (∀ p ∈ l, Bytes p.d) → Bytes (encL l)
  | [], _ => bytes_nil
  | p :: l, h => by
    rw [encL_cons]
    exact bytes_app (bytes_enc (h p List.mem_cons_self)) (bytes_encL l (fun q hq => h q (List.mem_cons_of_mem _ hq)))
theorem small_LT : Small LT := by unfold Small; decide
theorem small_0 : Small [op0] := by unfold Small; decide
theorem not_may_0 : ¬ allMay [op0] := fun h => by have := h 0 (by decide); revert this; decide
def ET : List Int := encL LT
theorem et_len : ET.length = 55 := by decide
theorem et_0 : ET.getD 0 0 = 6 := by decide
theorem et_28 : ET.getD 28 0 = 255 := by decide
theorem takes_ET : takes ET = (LT, 55) := by
  have := takes_enc0 LT allOk_LT
  rw [show (encL LT).length = 55 from et_len] at this
  exact this
theorem takes_ET50 : (takes (ET.take 50)).2 = 27 := by
  have e : ET.take 50 = encL [pT] ++ (encO pW).take 23 := by decide
  have h := takes_enc ((encO pW).take 23) [pT] (fun p hp => allOk_LT p (by simp [LT] at hp ⊢; exact .inl hp))
  have h0 : headB ((encO pW).take 23) = false := short_head (xs := (encO pW).take 23) (e := 0) (by decide)
  rw [e, h, takes_none h0]
  decide
theorem et_bytes : Bytes ET := bytes_encL LT (fun p hp => (allOk_LT p hp).1.d)
end Go.Proofs.Ytamaocdchlioaaa
