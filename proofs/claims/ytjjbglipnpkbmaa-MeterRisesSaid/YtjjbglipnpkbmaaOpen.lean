/- How arguments are read: a slice of whole numbers as a list, an array of whole numbers as its cells. No program in sight. -/
import Derived.Test.YtjjbglipnpkbmaaFrame
import Derived.ProofKit
import Derived.OpenShut
import Derived.Laws.IdiomArrays
namespace Go.Proofs.Ytjjbglipnpkbmaa
open Go.ChangeShapes Go.WideShapes Go.ChangeAt Go.RowKit

theorem bounds_of_wf {k : IntKind} {a lo hi : Int} (h : (Lit.int k a).wf = true) (h1 : k.min = lo) (h2 : k.max = hi) : lo ≤ a ∧ a ≤ hi := by
  simp only [Lit.wf, Bool.and_eq_true, decide_eq_true_eq] at h
  omega
theorem range_of_wf {k : IntKind} {zs : List Int} {lo hi : Int} (h : ∀ n ∈ zs, (Lit.int k n).wf = true) (h1 : k.min = lo) (h2 : k.max = hi) (i : Nat) : lo ≤ zs.getD i 0 ∧ zs.getD i 0 ≤ hi := by
  by_cases hi' : i < zs.length
  · have e : zs.getD i 0 = zs[i] := by simp [List.getD, hi']
    rw [e]
    exact bounds_of_wf (h _ (List.getElem_mem hi')) h1 h2
  · have e : zs.getD i 0 = 0 := by simp [List.getD, hi']
    rw [e]
    have : k.min ≤ 0 ∧ 0 ≤ k.max := by cases k <;> decide
    omega

variable {P : Program} {H : Type} {enc : TypeId × Value → H} {W : World}

/-- A slice of whole numbers that came in: its elements, where they lie, that each fits. -/
theorem open_reads {t e : TypeId} {k : IntKind} {a : Option Addr} {n c : Nat} {d : DataW H} {p : List MemPlace} (ht : P.underlying t = some (.slice e)) (he : P.underlying e = some (.int k)) (hc : P.cellsOf e = 1)
    (h : DataW.Trod enc P W 0 (fun _ => true) true t (.slice a n c) d p) : ∃ zs : List Int, zs.length = n ∧ Reads k W a zs ∧ (∀ x ∈ zs, (Lit.int k x).wf = true) ∧ n ≤ 9223372036854775807 ∧ n ≤ c := by
  obtain ⟨fuel, hf⟩ := h
  rcases open_ints ht he hc hf with ⟨hcs, _⟩ | ⟨x, l, c', zs, hcs, _, hl, hm, hz, _, hcell, hwz⟩
  · simp [Value.cells] at hcs
    obtain ⟨rfl, rfl, rfl⟩ := hcs
    exact ⟨[], rfl, .inl rfl, fun x hx => (List.not_mem_nil hx).elim, by omega, by omega⟩
  · simp [Value.cells] at hcs
    obtain ⟨rfl, rfl, rfl⟩ := hcs
    have hz' : zs.length = c := by simpa using hz
    have hm' : c ≤ 9223372036854775807 := hm
    refine ⟨zs.take n, by simp; omega, ?_, fun x hx => hwz x (List.mem_of_mem_take hx), by omega, hl⟩
    by_cases h0 : n = 0
    · exact .inl (by simp [h0])
    · obtain ⟨b, off, spot⟩ := x
      have hs : spot = none := by
        have := World.cell?_spot (hcell 0 (by omega))
        simpa [Addr.add] using this
      subst hs
      refine .inr ⟨b, off, rfl, fun i hi => ?_⟩
      have hi' : i < n ∧ i < zs.length := by rw [List.length_take] at hi; omega
      have := hcell i hi'.2
      rw [WideShapes.add_plain] at this
      rw [this]
      simp [List.getD, hi'.1]
end Go.Proofs.Ytjjbglipnpkbmaa
