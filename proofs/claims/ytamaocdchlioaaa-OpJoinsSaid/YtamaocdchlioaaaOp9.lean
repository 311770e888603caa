/- The reference's Take (almeryref19.Take). -/
import Derived.Test.YtamaocdchlioaaaOp8
namespace Go.Proofs.Ytamaocdchlioaaa
open Go.RowKit
set_option linter.unusedVariables false

theorem Try.infoO : (Try.prog.info? 40).map (fun i => (i.zero, i.size, i.bytes)) = some (some (.agg #[.int .i64 0, .int .i64 0, .int .i64 0, .int .i64 0, .slice none 0 0]), 5, 56) := by kernel_rfl
/-- ops, each with the value of its bytes -/
def ocells : List (POp × Value) → List Value
  | [] => []
  | q :: r => [.int .i64 q.1.k, .int .i64 q.1.a, .int .i64 q.1.b, .int .i64 q.1.c, q.2] ++ ocells r
theorem ocells_app (a b : List (POp × Value)) : ocells (a ++ b) = ocells a ++ ocells b := by
  induction a with
  | nil => rfl
  | cons q r ih => simp [ocells, ih]
theorem ocells_len (a : List (POp × Value)) : (ocells a).length = a.length * 5 := by
  induction a with
  | nil => rfl
  | cons q r ih => simp only [ocells, List.length_append, List.length_cons, List.length_nil, ih]; omega
theorem ocells_at (d : POp × Value) : ∀ (a : List (POp × Value)) (i : Nat), i < a.length → (ocells a)[i * 5]? = some (.int .i64 (a.getD i d).1.k) ∧ (ocells a)[i * 5 + 1]? = some (.int .i64 (a.getD i d).1.a) ∧ (ocells a)[i * 5 + 2]? = some (.int .i64 (a.getD i d).1.b) ∧ (ocells a)[i * 5 + 3]? = some (.int .i64 (a.getD i d).1.c) ∧ (ocells a)[i * 5 + 4]? = some (a.getD i d).2
  | [], i, h => by simp at h
  | q :: r, 0, h => by simp [ocells, List.getD]
  | q :: r, i + 1, h => by
    have h' := ocells_at d r i (by simpa using h)
    have e : ∀ j, (ocells (q :: r))[(i + 1) * 5 + j]? = (ocells r)[i * 5 + j]? := fun j => by
      rw [ocells, List.getElem?_append_right (by simp; omega)]
      congr 1
      simp
      omega
    have e0 := e 0
    have e1 := e 1
    have e2 := e 2
    have e3 := e 3
    have e4 := e 4
    rw [Nat.add_zero] at e0
    rw [Nat.add_zero] at e0
    rw [e0, e1, e2, e3, e4]
    simpa [List.getD] using h'
/-- the bytes of each are there -/
def OB (w : World) (qs : List (POp × Value)) : Prop := ∀ q ∈ qs, LB w q.2 q.1.d
theorem OB.keep {w w' : World} {qs : List (POp × Value)} (h : OB w qs) (k : Below w.heap.size w w') : OB w' qs := fun q hq => (h q hq).keep k
theorem ov_of_own {w : World} {base : Nat} {v : Value} {qs : List (POp × Value)} (h : w.ownsRow base 40 5 v qs.length (ocells qs)) (hb : OB w qs) : OV w v (qs.map Prod.fst) := by
  have hlen : (qs.map Prod.fst).length = qs.length := by simp
  obtain ⟨h1, h2 | ⟨g, cap, cur, rfl, hbg, hgg, hc, hm, hs, htake⟩⟩ := h
  · obtain ⟨rfl, h0⟩ := h2
    exact ⟨none, 0, by rw [hlen, h0], by omega, Nat.zero_le _, fun _ => rfl, .inl (by omega)⟩
  · refine ⟨some ⟨g, 0, none⟩, cap, by rw [hlen], by omega, hm, nofun, ?_⟩
    by_cases h0 : qs.length = 0
    · exact .inl (by omega)
    · refine .inr ⟨g, 0, rfl, fun i hi => ?_⟩
      have hi' : i < qs.length := by omega
      have h' : w.ownsRow base 40 5 (.slice (some ⟨g, 0, none⟩) qs.length cap) qs.length (ocells qs) := ⟨h1, .inr ⟨g, cap, cur, rfl, hbg, hgg, hc, hm, hs, htake⟩⟩
      have hcell : ∀ j u, (ocells qs)[j]? = some u → w.cell? ⟨g, 0 + j, none⟩ = some u := fun j u hu => by
        have := h'.cells (g := g) rfl j u hu
        rw [WideShapes.add_plain] at this
        exact this
      have hat := ocells_at (op0, .slice none 0 0) qs i hi'
      have hg : (qs.map Prod.fst).getD i op0 = (qs.getD i (op0, .slice none 0 0)).1 := by simp [List.getD, hi']
      rw [hg]
      have hmem : qs.getD i (op0, .slice none 0 0) ∈ qs := by
        have : qs.getD i (op0, .slice none 0 0) = qs[i] := by simp [List.getD, hi']
        rw [this]; exact List.getElem_mem hi'
      exact ⟨_, hb _ hmem, hcell _ _ hat.1, hcell _ _ hat.2.1, hcell _ _ hat.2.2.1, hcell _ _ hat.2.2.2.1, hcell _ _ hat.2.2.2.2⟩
def Takes (xs : List Int) (w : World) (lv : Value) (at_ er : Int) : Prop := ((takes xs).2 = xs.length ∧ er = 0 ∧ at_ = 0 ∧ OV w lv (takes xs).1) ∨ ((takes xs).2 < xs.length ∧ er = 2 ∧ at_ = ((takes xs).2 : Nat) ∧ lv = .slice none 0 0)
/-- the ops taken so far, and where their bytes lie -/
def Sofar (xs : List Int) (w : World) (qs : List (POp × Value)) (e : Nat) : Prop := Took xs (qs.map Prod.fst) e ∧ OB w qs
theorem Sofar.len {xs : List Int} {w : World} {qs : List (POp × Value)} {e : Nat} (h : Sofar xs w qs e) : 27 * qs.length ≤ e := by
  have := h.1.2.1
  simpa using this
theorem Sofar.step {xs : List Int} {w : World} {qs : List (POp × Value)} {e : Nat} {dv : Value} (h : Sofar xs w qs e) (hh : headB (xs.drop e) = true) (hd : LB w dv (opAt (xs.drop e)).d) : Sofar xs w (qs ++ [(opAt (xs.drop e), dv)]) (e + sizeAt (xs.drop e)) :=
  ⟨by rw [List.map_append]; exact h.1.step hh, fun q hq => by
    rcases List.mem_append.1 hq with hq | hq
    · exact h.2 q hq
    · have : q = (opAt (xs.drop e), dv) := by simpa using hq
      rw [this]; exact hd⟩
/-- the bytes of an op, as a piece of all -/
theorem lb_piece {w : World} {b off c : Nat} {xs : List Int} (h : LB w (.slice (some ⟨b, off, none⟩) xs.length c) xs) (k n : Nat) (hk : k + n ≤ xs.length) (hn : k < c) (c' : Nat) (hc : n ≤ c') (hc' : c' ≤ c - k) : LB w (.slice (some ⟨b, off + k, none⟩) n c') ((xs.drop k).take n) := by
  obtain ⟨a, c0, hv, h1, h2, _, h4⟩ := h
  injection hv with e1 e2 e3
  subst e1
  subst e3
  have hl : ((xs.drop k).take n).length = n := by rw [List.length_take, List.length_drop]; omega
  refine ⟨some ⟨b, off + k, none⟩, c', by rw [hl], by omega, by omega, nofun, ?_⟩
  rcases h4 with h4 | ⟨b', off', hb, h4⟩
  · exact .inl (by rw [hl]; omega)
  · injection hb with hb
    injection hb with hb1 hb2
    subst hb1
    subst hb2
    refine .inr ⟨b, off + k, rfl, fun i hi => ?_⟩
    rw [hl] at hi
    have h5 := h4 (k + i) (by omega)
    rw [show off + k + i = off + (k + i) from by omega, h5]
    simp [List.getD, hi]
theorem lb_none {w : World} {a : Option Addr} {m : Nat} {ys : List Int} (h : ys = []) (ha : a = none → m = 0) (hm : m ≤ maxLen) : LB w (.slice a 0 m) ys := by
  subst h
  exact ⟨a, m, rfl, Nat.zero_le _, hm, ha, .inl rfl⟩
theorem drop_getD (xs : List Int) (e i : Nat) : (xs.drop e).getD i 0 = xs.getD (e + i) 0 := by simp [List.getD]
theorem hor_drop (xs : List Int) (e o : Nat) : hor (fun i => xs.getD (e + o + i) 0) 8 = word (xs.drop e) o 8 := by
  rw [← hor_word]
  congr 1
  funext i
  rw [drop_getD, Nat.add_assoc]
end Go.Proofs.Ytamaocdchlioaaa
