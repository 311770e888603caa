/- What a handle that was taken is, behind any takes and gives (no program in sight). -/
import Derived.Test.YtkbifnbblimnlaaRun
namespace Go.Proofs.Ytkbifnbblimnlaa
open Go.RowKit
set_option linter.unusedVariables false

theorem readA_of {w : World} {a : Option Addr} {zs : List Act} (h : zs.length = 0 ∨ ∃ b off, a = some ⟨b, off, none⟩ ∧ ∀ i, i < zs.length → ∃ cs : List Value, cs.length = 3 ∧ (∀ j, j < 3 → w.cell? ⟨b, off + i * 3 + j, none⟩ = cs[j]?) ∧ cs[0]? = some (.bool (zs.getD i act0).1) ∧
    cs[1]? = some (.int .u8 (zs.getD i act0).2.1) ∧ (0 ≤ (zs.getD i act0).2.1 ∧ (zs.getD i act0).2.1 ≤ 255) ∧ cs[2]? = some (.int .u8 (zs.getD i act0).2.2) ∧ (0 ≤ (zs.getD i act0).2.2 ∧ (zs.getD i act0).2.2 ≤ 255)) : ReadA w a zs := by
  rcases h with h | ⟨b, off, ha, h⟩
  · exact .inl h
  · refine .inr ⟨b, off, ha, fun i hi => ?_⟩
    obtain ⟨cs, _, hc, h0, h1, h3, h2, h4⟩ := h i hi
    exact ⟨(hc 0 (by omega)).trans h0, (hc 1 (by omega)).trans h1, (hc 2 (by omega)).trans h2, h3, h4⟩
/-- the slot f was taken in the generation G; gone: it was given back since -/
structure LF (gone : Bool) (n f : Nat) (G : Int) (gn : Nat → Int) (lv : Nat → Bool) : Prop where
  lt : f < n
  big : n ≤ 4096
  g1 : 1 ≤ G
  g2 : G ≤ 1023
  here : gone = false → gn f = G ∧ lv f = true
  past : gone = true → G < gn f
theorem LF.div {gone : Bool} {n f : Nat} {G : Int} {gn : Nat → Int} {lv : Nat → Bool} (h : LF gone n f G gn lv) : (G * 4096 + f) % 4096 = f ∧ (G * 4096 + f) / 4096 = G ∧ ¬ (G * 4096 + f < 4096 ∨ 4194304 ≤ G * 4096 + f) := by
  obtain ⟨h1, h2, h3, h4, _, _⟩ := h
  omega
theorem LF.look {n f : Nat} {G : Int} {gn : Nat → Int} {lv : Nat → Bool} (h : LF false n f G gn lv) : lookS n lv gn (G * 4096 + f) = ((f : Int), 0) := by
  obtain ⟨d1, d2, d3⟩ := h.div
  obtain ⟨e1, e2⟩ := h.here rfl
  rw [lookS_in d3 d1 h.lt, d2, e1, e2, if_neg (by omega), if_neg (by simp)]
theorem LF.stale {n f : Nat} {G : Int} {gn : Nat → Int} {lv : Nat → Bool} (h : LF true n f G gn lv) : lookS n lv gn (G * 4096 + f) = (0, 6) := by
  obtain ⟨d1, d2, d3⟩ := h.div
  have e1 := h.past rfl
  rw [lookS_in d3 d1 h.lt, d2, if_pos e1]
theorem LF.take {gone : Bool} {n f : Nat} {G gens : Int} {gn : Nat → Int} {lv lv' : Nat → Bool} {fr fr' : List Nat} {k s er : Int} (h : LF gone n f G gn lv) (hi : Inv n gens gn lv fr) (t : TK n gn lv fr k s er lv' fr') :
    LF gone n f G gn lv' ∧ (er = 0 → k ≠ G * 4096 + f) := by
  cases t with
  | none => exact ⟨h, by omega⟩
  | some f2 fs h1 h2 h3 =>
    have hf := hi.free f2 List.mem_cons_self
    have hlt := h.lt
    have hb := h.big
    refine ⟨⟨h.lt, h.big, h.g1, h.g2, fun e => ?_, h.past⟩, fun _ e => ?_⟩
    · obtain ⟨e1, e2⟩ := h.here e
      refine ⟨e1, ?_⟩
      by_cases e3 : f = f2
      · rw [e3]; exact updB_same
      · rw [updB_other e3]; exact e2
    · have e1 : f2 = f := by omega
      subst e1
      cases gone with
      | false => have := (h.here rfl).2; rw [hf.2.1] at this; cases this
      | true => have := h.past rfl; omega
theorem LF.turn {gone : Bool} {n f i : Nat} {G hh : Int} {gn : Nat → Int} {lv : Nat → Bool} (h : LF gone n f G gn lv) (hi : i < n) (hk : lookS n lv gn hh = ((i : Int), 0)) :
    LF (gone || (decide (hh = G * 4096 + f))) n f G (upd gn i (gn i + 1)) (updB lv i false) := by
  obtain ⟨s, hs, h1, h2, h3, h4, h5, h6⟩ := lookS_ok (n := n) (lv := lv) (gn := gn) (h := hh) (by rw [hk])
  rw [hk] at h4
  have e0 : s = i := by have := congrArg Prod.fst h4; simp at this; omega
  subst e0
  have hlt := h.lt
  have hb := h.big
  by_cases e : hh = G * 4096 + f
  · have e1 : s = f := by omega
    have e2 : gn s = G := by omega
    subst e1
    refine ⟨h.lt, h.big, h.g1, h.g2, fun e' => ?_, fun _ => ?_⟩
    · simp [e] at e'
    · rw [upd_same]; omega
  · have hne : gone = false → f ≠ s := fun e1 e2 => by
      have := (h.here e1).1
      subst e2
      omega
    refine ⟨h.lt, h.big, h.g1, h.g2, fun e' => ?_, fun e' => ?_⟩
    · simp [e] at e'
      obtain ⟨e1, e2⟩ := h.here e'
      rw [upd_other (hne e'), updB_other (hne e')]
      exact ⟨e1, e2⟩
    · simp [e] at e'
      have := h.past e'
      by_cases e3 : f = s
      · rw [e3, upd_same]; rw [e3] at this; omega
      · rw [upd_other e3]; exact this
theorem LF.give {gone : Bool} {n f : Nat} {G gens hh er : Int} {gn gn' : Nat → Int} {lv lv' : Nat → Bool} {fr fr' : List Nat} (h : LF gone n f G gn lv) (t : GV n gens gn lv fr hh er gn' lv' fr') :
    LF (gone || (decide (er = 0) && decide (hh = G * 4096 + f))) n f G gn' lv' := by
  cases t with
  | bad hb => simpa [hb] using h
  | over i h1 h2 h3 h4 h5 h6 => simpa using h.turn h1 h2
  | free i h1 h2 h3 h4 h5 h6 => simpa using h.turn h1 h2
end Go.Proofs.Ytkbifnbblimnlaa
