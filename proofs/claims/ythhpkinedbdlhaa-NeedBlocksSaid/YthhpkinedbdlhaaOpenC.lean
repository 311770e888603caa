/- How a struct of numbers and slices that came in is read. No program in sight. -/
import Derived.Test.YthhpkinedbdlhaaOpenS
namespace Go.Proofs.Ythhpkinedbdlhaa
open Go.ChangeShapes Go.WideShapes Go.ChangeAt Go.RowKit
variable {P : Program} {H : Type} {enc : TypeId × Value → H} {W : World}

theorem okWide_struct {r : Reach} {b0 : Nat} {t : TypeId} {fs : Array Field} {v : Value} (ht : P.underlying t = some (.struct fs)) (h : Value.okWide P W r b0 t v) : ∃ cs, v = .agg cs ∧ cs.size = P.cellsOf t := by
  simp only [Value.okWide, ht] at h
  obtain ⟨cs, h1, h2, _⟩ := h
  exact ⟨cs, h1, h2⟩
theorem trod_agg {t : TypeId} {cs : Array Value} {d : DataW H} {p : List MemPlace} (h : DataW.Trod enc P W 0 (fun _ => true) true t (.agg cs) d p) : ∃ m x, DataW.trod enc P W 0 (fun _ => true) true m t cs.toList = some x := by
  obtain ⟨m, hm⟩ := h
  exact ⟨m, _, by simpa [Value.cells] using hm⟩
theorem elem_bool {e : TypeId} {m : Nat} {cs : List Value} {x : DataW H × List MemPlace} (he : P.underlying e = some .bool) (hl : cs.length = 1) (h : DataW.trod enc P W 0 (fun _ => true) true m e cs = some x) : ∃ z, cs[0]? = some (.bool z) := by
  match cs, hl with
  | [v], _ =>
    obtain ⟨z, hz, _⟩ := DataW.trod_bool he h
    exact ⟨z, by rw [hz]; rfl⟩
theorem arr_eq8 {cs : Array Value} {v0 v1 v2 v3 v4 v5 v6 v7 : Value} (h : cs.size = 8) (h0 : cs.toList[0]? = some v0) (h1 : cs.toList[1]? = some v1) (h2 : cs.toList[2]? = some v2) (h3 : cs.toList[3]? = some v3) (h4 : cs.toList[4]? = some v4) (h5 : cs.toList[5]? = some v5) (h6 : cs.toList[6]? = some v6) (h7 : cs.toList[7]? = some v7) : cs = #[v0, v1, v2, v3, v4, v5, v6, v7] := by
  rcases cs with ⟨l⟩
  match l, h with
  | [a, b, c, d, e, f, g, i], _ =>
    simp at h0 h1 h2 h3 h4 h5 h6 h7
    subst h0 h1 h2 h3 h4 h5 h6 h7
    rfl
end Go.Proofs.Ythhpkinedbdlhaa
