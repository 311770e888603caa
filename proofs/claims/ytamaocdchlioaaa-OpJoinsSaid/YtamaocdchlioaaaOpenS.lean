/- How a slice of structs that came in is read: element by element, field by field. No program in sight. -/
import Derived.Test.YtamaocdchlioaaaOpenL
import Derived.ChangeArms
namespace Go.Proofs.Ytamaocdchlioaaa
open Go.ChangeShapes Go.WideShapes Go.ChangeAt Go.RowKit
variable {P : Program} {H : Type} {enc : TypeId × Value → H} {W : World}

theorem take1_get {cs : List Value} {o : Nat} {v : Value} (h : (cs.drop o).take 1 = [v]) : cs[o]? = some v := by
  have h1 := congrArg (fun l : List Value => l[0]?) h
  simpa using h1
theorem field_at {fs : Array Field} {t : TypeId} {m : Nat} {cs : List Value} {x : DataW H × List MemPlace} (ht : P.underlying t = some (.struct fs)) (h : DataW.trod enc P W 0 (fun _ => true) true m t cs = some x)
    (i : Nat) (f : Field) (hf : fs[i]? = some f) : ∃ n y, DataW.trod enc P W 0 (fun _ => true) true n f.type ((cs.drop f.offset).take (P.cellsOf f.type)) = some y := by
  obtain ⟨xs, n, _, rfl, hl, hlen, hfs⟩ := DataW.trod_struct ht h
  have hi : i < xs.length := by
    have := (Array.getElem?_eq_some_iff.1 hf).1
    omega
  exact ⟨n, xs[i], by rw [hfs i f hf]; simp [hi]⟩
theorem field_int {fs : Array Field} {t : TypeId} {k : IntKind} {m : Nat} {cs : List Value} {x : DataW H × List MemPlace} (ht : P.underlying t = some (.struct fs)) (h : DataW.trod enc P W 0 (fun _ => true) true m t cs = some x)
    (i : Nat) (f : Field) (hf : fs[i]? = some f) (hk : P.underlying f.type = some (.int k)) (hc : P.cellsOf f.type = 1) : ∃ n, cs[f.offset]? = some (.int k n) ∧ (Lit.int k n).wf = true := by
  obtain ⟨n, y, hy⟩ := field_at ht h i f hf
  rw [hc] at hy
  obtain ⟨z, hz, _, hw⟩ := DataW.trod_int hk hy
  exact ⟨z, take1_get hz, hw⟩
theorem field_bool {fs : Array Field} {t : TypeId} {m : Nat} {cs : List Value} {x : DataW H × List MemPlace} (ht : P.underlying t = some (.struct fs)) (h : DataW.trod enc P W 0 (fun _ => true) true m t cs = some x)
    (i : Nat) (f : Field) (hf : fs[i]? = some f) (hk : P.underlying f.type = some .bool) (hc : P.cellsOf f.type = 1) : ∃ b, cs[f.offset]? = some (.bool b) := by
  obtain ⟨n, y, hy⟩ := field_at ht h i f hf
  rw [hc] at hy
  obtain ⟨z, hz, _⟩ := DataW.trod_bool hk hy
  exact ⟨z, take1_get hz⟩
/-- a field that is a slice: its value, and how it is read -/
theorem field_slice {fs : Array Field} {t e : TypeId} {m : Nat} {cs : List Value} {x : DataW H × List MemPlace} (ht : P.underlying t = some (.struct fs)) (h : DataW.trod enc P W 0 (fun _ => true) true m t cs = some x)
    (i : Nat) (f : Field) (hf : fs[i]? = some f) (hk : P.underlying f.type = some (.slice e)) (hc : P.cellsOf f.type = 1) :
    ∃ a n c d p, cs[f.offset]? = some (.slice a n c) ∧ DataW.Trod enc P W 0 (fun _ => true) true f.type (.slice a n c) d p := by
  obtain ⟨n, y, hy⟩ := field_at ht h i f hf
  rw [hc] at hy
  have h0 := hy
  rcases DataW.trod_slice hk hy with ⟨hcs, _⟩ | ⟨a, l, cap, elems, rest, m', rfl, hcs, _⟩
  · rw [hcs] at h0
    exact ⟨none, 0, 0, _, _, take1_get hcs, ⟨_, by simpa [Value.cells] using h0⟩⟩
  · rw [hcs] at h0
    exact ⟨some a, l, cap, _, _, take1_get hcs, ⟨_, by simpa [Value.cells] using h0⟩⟩

theorem open_list {α : Type} (dflt : α) {t e : TypeId} {s : Nat} {a : Option Addr} {n c : Nat} {d : DataW H} {p : List MemPlace} (ht : P.underlying t = some (.slice e)) (hs : P.cellsOf e = s) (hp : 0 < s)
    (h : DataW.Trod enc P W 0 (fun _ => true) true t (.slice a n c) d p) (R : List Value → α → Prop)
    (hR : ∀ cs m x, cs.length = s → DataW.trod enc P W 0 (fun _ => true) true m e cs = some x → ∃ z, R cs z) :
    ∃ zs : List α, zs.length = n ∧ n ≤ c ∧ c ≤ maxLen ∧ (a = none → c = 0) ∧ (n = 0 ∨ ∃ b off, a = some ⟨b, off, none⟩ ∧ ∀ i, i < n → ∃ cs : List Value, cs.length = s ∧ (∀ j, j < s → W.cell? ⟨b, off + i * s + j, none⟩ = cs[j]?) ∧ R cs (zs.getD i dflt)) := by
  obtain ⟨h1, h2, ha, h3⟩ := open_each ht hs hp h
  rcases h3 with rfl | ⟨b, off, rfl, hx⟩
  · exact ⟨[], rfl, h1, h2, ha, .inl rfl⟩
  · have hv : ∀ i, ∃ z : α, i < n → ∃ cs : List Value, cs.length = s ∧ (∀ j, j < s → W.cell? ⟨b, off + i * s + j, none⟩ = cs[j]?) ∧ R cs z := by
      intro i
      by_cases hi : i < n
      · obtain ⟨cs, m, x, hl, hcell, htr⟩ := hx i hi
        obtain ⟨z, hz⟩ := hR cs m x hl htr
        exact ⟨z, fun _ => ⟨cs, hl, hcell, hz⟩⟩
      · exact ⟨dflt, fun h => absurd h hi⟩
    refine ⟨(List.range n).map fun i => (hv i).choose, by simp, h1, h2, ha, .inr ⟨b, off, rfl, fun i hi => ?_⟩⟩
    have h4 : ((List.range n).map fun i => (hv i).choose).getD i dflt = (hv i).choose := by simp [List.getD, hi]
    rw [h4]
    exact (hv i).choose_spec hi
end Go.Proofs.Ytamaocdchlioaaa
