/- How arguments are read: a slice of whole numbers as a list, an array of whole numbers as its cells. No program in sight. -/
import Derived.Test.YtamaocdchlioaaaFrame
import Derived.ProofKit
import Derived.OpenShut
import Derived.Laws.IdiomArrays
namespace Go.Proofs.Ytamaocdchlioaaa
open Go.ChangeShapes Go.WideShapes Go.ChangeAt Go.RowKit

theorem bounds_of_wf {k : IntKind} {a lo hi : Int} (h : (Lit.int k a).wf = true) (h1 : k.min = lo) (h2 : k.max = hi) : lo ≤ a ∧ a ≤ hi := by
  simp only [Lit.wf, Bool.and_eq_true, decide_eq_true_eq] at h
  omega
theorem range_of_wf {k : IntKind} {zs : List Int} {lo hi : Int} (h : ∀ n ∈ zs, (Lit.int k n).wf = true) (h1 : k.min = lo) (h2 : k.max = hi) (i : Nat) : lo ≤ zs.getD i 0 ∧ zs.getD i 0 ≤ hi := by
  by_cases hi' : i < zs.length
  · have e : zs.getD i 0 = zs[i] := by simp [List.getD, hi']
    rw [e]
    exact bounds_of_wf (h _ (List.getElem_mem hi')) h1 h2
  · have e : zs.getD i 0 = 0 := by simp [List.getD, hi']
    rw [e]
    have : k.min ≤ 0 ∧ 0 ≤ k.max := by cases k <;> decide
    omega

variable {P : Program} {H : Type} {enc : TypeId × Value → H} {W : World}

/-- A slice of whole numbers that came in: its elements, where they lie, that each fits. -/
theorem open_reads {t e : TypeId} {k : IntKind} {a : Option Addr} {n c : Nat} {d : DataW H} {p : List MemPlace} (ht : P.underlying t = some (.slice e)) (he : P.underlying e = some (.int k)) (hc : P.cellsOf e = 1)
    (h : DataW.Trod enc P W 0 (fun _ => true) true t (.slice a n c) d p) : ∃ zs : List Int, zs.length = n ∧ Reads k W a zs ∧ (∀ x ∈ zs, (Lit.int k x).wf = true) ∧ n ≤ 9223372036854775807 ∧ n ≤ c := by
  obtain ⟨fuel, hf⟩ := h
  rcases open_ints ht he hc hf with ⟨hcs, _⟩ | ⟨x, l, c', zs, hcs, _, hl, hm, hz, _, hcell, hwz⟩
  · simp [Value.cells] at hcs
    obtain ⟨rfl, rfl, rfl⟩ := hcs
    exact ⟨[], rfl, .inl rfl, fun x hx => (List.not_mem_nil hx).elim, by omega, by omega⟩
  · simp [Value.cells] at hcs
    obtain ⟨rfl, rfl, rfl⟩ := hcs
    have hz' : zs.length = c := by simpa using hz
    have hm' : c ≤ 9223372036854775807 := hm
    refine ⟨zs.take n, by simp; omega, ?_, fun x hx => hwz x (List.mem_of_mem_take hx), by omega, hl⟩
    by_cases h0 : n = 0
    · exact .inl (by simp [h0])
    · obtain ⟨b, off, spot⟩ := x
      have hs : spot = none := by
        have := World.cell?_spot (hcell 0 (by omega))
        simpa [Addr.add] using this
      subst hs
      refine .inr ⟨b, off, rfl, fun i hi => ?_⟩
      have hi' : i < n ∧ i < zs.length := by rw [List.length_take] at hi; omega
      have := hcell i hi'.2
      rw [WideShapes.add_plain] at this
      rw [this]
      simp [List.getD, hi'.1]

theorem okWide_array {r : Reach} {b0 n : Nat} {t e : TypeId} {v : Value} (ht : P.underlying t = some (.array n e)) (h : Value.okWide P W r b0 t v) : ∃ cs, v = .agg cs ∧ cs.size = P.cellsOf t := by
  simp only [Value.okWide, ht] at h
  obtain ⟨cs, h1, h2, _⟩ := h
  exact ⟨cs, h1, h2⟩

/-- An array of two whole numbers. -/
theorem open_arr2 {r : Reach} {b0 : Nat} {t e : TypeId} {k : IntKind} {v : Value} {d : DataW H} {p : List MemPlace} (ht : P.underlying t = some (.array 2 e)) (he : P.underlying e = some (.int k)) (hc : P.cellsOf e = 1) (hC : P.cellsOf t = 2)
    (hv : Value.okWide P W r b0 t v) (h : DataW.Trod enc P W 0 (fun _ => true) true t v d p) : ∃ x y : Int, v = .agg #[.int k x, .int k y] ∧ (Lit.int k x).wf = true ∧ (Lit.int k y).wf = true := by
  obtain ⟨cs, rfl, hsz⟩ := okWide_array ht hv
  obtain ⟨fuel, hf⟩ := h
  obtain ⟨xs, m, _, _, _, hl, hx⟩ := DataW.trod_array ht hf
  have hcs : cs.size = 2 := hsz.trans hC
  obtain ⟨u, v, rfl⟩ : ∃ u v, cs = #[u, v] := by
    rcases cs with ⟨l⟩
    match l, hcs with
    | [u, v], _ => exact ⟨u, v, rfl⟩
  have h0 := hx 0 (by omega)
  have h1 := hx 1 (by omega)
  simp only [hc, Value.cells] at h0 h1
  have e0 : xs[0]? = some (xs[0]'(by omega)) := by simp
  have e1 : xs[1]? = some (xs[1]'(by omega)) := by simp
  rw [e0] at h0
  rw [e1] at h1
  obtain ⟨x, hx0, _, w0⟩ := DataW.trod_int he h0
  obtain ⟨y, hy0, _, w1⟩ := DataW.trod_int he h1
  simp at hx0 hy0
  subst hx0 hy0
  exact ⟨x, y, rfl, w0, w1⟩
end Go.Proofs.Ytamaocdchlioaaa
