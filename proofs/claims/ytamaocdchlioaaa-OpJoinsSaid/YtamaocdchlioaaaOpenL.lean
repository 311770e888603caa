/- How a slice that came in is read, element by element; a slice of floats as a list. No program in sight. -/
import Derived.Test.YtamaocdchlioaaaOpen
import Derived.Deep.Slices
import Derived.WalkLawsBesides
namespace Go.Proofs.Ytamaocdchlioaaa
open Go.ChangeShapes Go.WideShapes Go.ChangeAt Go.RowKit
variable {P : Program} {H : Type} {enc : TypeId × Value → H} {W : World}

theorem open_each {t e : TypeId} {s : Nat} {a : Option Addr} {n c : Nat} {d : DataW H} {p : List MemPlace} (ht : P.underlying t = some (.slice e)) (hs : P.cellsOf e = s) (hp : 0 < s)
    (h : DataW.Trod enc P W 0 (fun _ => true) true t (.slice a n c) d p) : n ≤ c ∧ c ≤ maxLen ∧ (a = none → c = 0) ∧ (n = 0 ∨ ∃ b off, a = some ⟨b, off, none⟩ ∧ ∀ i, i < n → ∃ cs m x, cs.length = s ∧
      (∀ j, j < s → W.cell? ⟨b, off + i * s + j, none⟩ = cs[j]?) ∧ DataW.trod enc P W 0 (fun _ => true) true m e cs = some x) := by
  obtain ⟨fuel, hf⟩ := h
  simp only [Value.cells] at hf
  rcases Go.Deep.open_slice ht hf with ⟨hcs, _⟩ | ⟨x, l, c', m, k, D, Pl, hcs, _, hl, hm, hmm, _, hx⟩
  · simp at hcs
    obtain ⟨rfl, rfl, rfl⟩ := hcs
    exact ⟨Nat.le_refl _, Nat.zero_le _, fun _ => rfl, .inl rfl⟩
  · simp at hcs
    obtain ⟨rfl, rfl, rfl⟩ := hcs
    simp only [if_true] at hmm
    subst hmm
    subst hs
    refine ⟨hl, hm, nofun, ?_⟩
    by_cases h0 : n = 0
    · exact .inl h0
    · obtain ⟨b, off, spot⟩ := x
      have hsp : spot = none := by
        obtain ⟨cs', h1, _⟩ := hx 0 (by omega)
        obtain ⟨_, hlen, hcell⟩ := World.cells?_some h1
        have h2 := hcell 0 hp
        rw [List.getElem?_eq_getElem (by omega)] at h2
        have := World.cell?_spot h2
        simpa [Addr.add] using this
      subst hsp
      refine .inr ⟨b, off, rfl, fun i hi => ?_⟩
      obtain ⟨cs', h1, h2⟩ := hx i (by omega)
      obtain ⟨_, hlen, hcell⟩ := World.cells?_some h1
      refine ⟨cs', k, _, hlen, fun j hj => ?_, h2⟩
      have := hcell j hj
      rw [WideShapes.add_plain, WideShapes.add_plain] at this
      exact this

/-- a slice of floats: where they lie -/
def ReadF (w : World) (a : Option Addr) (zs : List Nat) : Prop := zs.length = 0 ∨ ∃ b off, a = some ⟨b, off, none⟩ ∧ ∀ i, i < zs.length → w.cell? ⟨b, off + i, none⟩ = some (.float .f64 (zs.getD i 0))

theorem trod_float {t : TypeId} {k : FloatKind} {m : Nat} {v : Value} {x : DataW H × List MemPlace} (ht : P.underlying t = some (.float k)) (h : DataW.trod enc P W 0 (fun _ => true) true m t [v] = some x) : ∃ b, v = .float k b ∧ (Lit.float k b).wf = true := by
  cases m with
  | zero => simp [DataW.trod] at h
  | succ n =>
    unfold DataW.trod at h
    rw [ht] at h
    cases v <;> simp at h
    next k' b =>
      obtain ⟨h1, h2⟩ := h
      simp_all

theorem open_floats {t e : TypeId} {a : Option Addr} {n c : Nat} {d : DataW H} {p : List MemPlace} (ht : P.underlying t = some (.slice e)) (he : P.underlying e = some (.float .f64)) (hc : P.cellsOf e = 1)
    (h : DataW.Trod enc P W 0 (fun _ => true) true t (.slice a n c) d p) : ∃ zs : List Nat, zs.length = n ∧ ReadF W a zs ∧ (∀ i, zs.getD i 0 < 18446744073709551616) ∧ n ≤ 9223372036854775807 ∧ n ≤ c ∧ (a = none → c = 0) := by
  obtain ⟨h1, h2, ha, h3⟩ := open_each ht hc (by omega) h
  have h2' : c ≤ 9223372036854775807 := h2
  rcases h3 with rfl | ⟨b, off, rfl, hx⟩
  · exact ⟨[], rfl, .inl rfl, fun i => by simp, by omega, h1, ha⟩
  · have hv : ∀ i, ∃ z : Nat, i < n → W.cell? ⟨b, off + i, none⟩ = some (.float .f64 z) ∧ z < 18446744073709551616 := by
      intro i
      by_cases hi : i < n
      · obtain ⟨cs, m, x, hl, hcell, htr⟩ := hx i hi
        match cs, hl with
        | [v], _ =>
          obtain ⟨z, rfl, hw⟩ := trod_float he htr
          have := hcell 0 (by omega)
          refine ⟨z, fun _ => ⟨by simpa using this, by simpa [Lit.wf] using hw⟩⟩
      · exact ⟨0, fun h => absurd h hi⟩
    refine ⟨(List.range n).map fun i => (hv i).choose, by simp, .inr ⟨b, off, rfl, fun i hi => ?_⟩, fun i => ?_, by omega, h1, ha⟩
    · have hi' : i < n := by simpa using hi
      rw [((hv i).choose_spec hi').1]
      simp [List.getD, hi']
    · by_cases hi' : i < n
      · have h4 : ((List.range n).map fun i => (hv i).choose).getD i 0 = (hv i).choose := by simp [List.getD, hi']
        rw [h4]
        exact ((hv i).choose_spec hi').2
      · simp [List.getD, hi']
end Go.Proofs.Ytamaocdchlioaaa
