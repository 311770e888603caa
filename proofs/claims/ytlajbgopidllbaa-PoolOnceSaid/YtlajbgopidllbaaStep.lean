/- What a take, and a give, of a page comes to: the pool and the reference's side by side. -/
import Derived.Test.YtlajbgopidllbaaRef3
import Derived.Test.YtlajbgopidllbaaOpenL
namespace Go.Proofs.Ytlajbgopidllbaa
open Go.RowKit

theorem LV.keepS {S : Nat → Prop} {B : Nat} {w w' : World} {v : Value} {l : List Int} (h : LV B w v l) (k : Keep S w w') (hS : ∀ i, B ≤ i → ¬ S i) : LV B w' v l := by
  obtain ⟨a, c, h1, h2, h3, h4, h5⟩ := h
  refine ⟨a, c, h1, h2, h3, h4, ?_⟩
  rcases h5 with h5 | ⟨b, off, ha, h5⟩
  · exact .inl h5
  · refine .inr ⟨b, off, ha, fun i hi => ?_⟩
    have h6 := h5 i hi
    have hlt := World.block_lt_of_cell? w _ h6
    have e := k.block b hlt (hS b (h4.2 _ ha))
    rw [← h6]
    simp only [World.cell?, e]

inductive TK (n : Nat) : (Nat → Int) → List Nat → Int → Int → Int → (Nat → Int) → List Nat → Prop
  | bad (os fr o) : o < 0 → TK n os fr o 0 1 os fr
  | none (os o) : 0 ≤ o → TK n os [] o 0 5 os []
  | some (os f fs o) : 0 ≤ o → f < n → TK n os (f :: fs) o f 0 (upd os f o) fs
inductive GV (n : Nat) : (Nat → Int) → List Nat → Int → Int → (Nat → Int) → List Nat → Prop
  | out (os fr i) : i < 0 ∨ (n : Int) ≤ i → GV n os fr i 1 os fr
  | free (os fr) (i : Nat) : i < n → os i = -1 → GV n os fr (i : Int) 9 os fr
  | some (os fr) (i : Nat) : i < n → os i ≠ -1 → GV n os fr (i : Int) 0 (upd os i (-1)) (i :: fr)

theorem ps_take (w : World) (g gp n : Nat) (os : Nat → Int) (fr : List Nat) (o : Int) (h : PA w g gp n os fr) :
    Calls Try.prog 16 #[ptr g, .int .i64 o] w fun e w' => ∃ m er os' fr', e = .returned (.tuple #[.int .i64 m, .int .i64 er]) ∧ TK n os fr o m er os' fr' ∧ PA w' g gp n os' fr' ∧ Keep (fun k => k = g ∨ k = gp) w w' := by
  by_cases ho : o < 0
  · refine (take_bad w g o ho).mono ?_
    rintro e w' ⟨rfl, rfl⟩
    exact ⟨_, _, _, _, rfl, .bad _ _ _ ho, h, Keep.refl _ _⟩
  · cases fr with
    | nil =>
      refine (pa_take_none w g gp n os o h (by omega)).mono ?_
      rintro e w' ⟨rfl, k⟩
      exact ⟨_, _, _, _, rfl, .none _ _ (by omega), h.keep k (fun h => h) (fun h => h), k.mono (fun _ h => h.elim)⟩
    | cons f fs =>
      refine (pa_take w g gp n f fs os o h (by omega)).mono ?_
      rintro e w' ⟨rfl, p, k⟩
      exact ⟨_, _, _, _, rfl, .some _ _ _ _ (by omega) (h.2.2.2.1 f List.mem_cons_self).1, p, k⟩
theorem ps_give (w : World) (g gp n : Nat) (os : Nat → Int) (fr : List Nat) (i : Int) (h : PA w g gp n os fr) :
    Calls Try.prog 17 #[ptr g, .int .i64 i] w fun e w' => ∃ er os' fr', e = .returned (.int .i64 er) ∧ GV n os fr i er os' fr' ∧ PA w' g gp n os' fr' ∧ Keep (fun k => k = g ∨ k = gp) w w' := by
  by_cases ho : i < 0 ∨ (n : Int) ≤ i
  · refine (pa_give_out w g gp n fr os i h ho).mono ?_
    rintro e w' ⟨rfl, rfl⟩
    exact ⟨_, _, _, rfl, .out _ _ _ ho, h, Keep.refl _ _⟩
  · obtain ⟨j, rfl⟩ : ∃ j : Nat, i = j := ⟨i.toNat, by omega⟩
    have hj : j < n := by omega
    by_cases hf : os j = -1
    · refine (pa_give_none w g gp n j fr os h hj hf).mono ?_
      rintro e w' ⟨rfl, rfl⟩
      exact ⟨_, _, _, rfl, .free _ _ _ hj hf, h, Keep.refl _ _⟩
    · refine (pa_give w g gp n j fr os h hj hf).mono ?_
      rintro e w' ⟨rfl, p, k⟩
      exact ⟨_, _, _, rfl, .some _ _ _ hj hf, p, k⟩

def icast (fr : List Nat) : List Int := fr.map fun i : Nat => (i : Int)
def RR (B : Nat) (w : World) (v : Value) (n : Nat) (os : Nat → Int) (fr : List Nat) : Prop :=
  ∃ rl : List Int, RP B w v rl (icast fr) ∧ rl.length = n ∧ ∀ i, i < n → rl.getD i 0 = os i
theorem rl_upd {rl : List Int} {n : Nat} {os : Nat → Int} (hl : rl.length = n) (h : ∀ i, i < n → rl.getD i 0 = os i) (f : Nat) (x : Int) : ∀ i, i < n → (rl.set f x).getD i 0 = upd os f x i := by
  intro i hi
  have h1 := h i hi
  simp only [List.getD, List.getElem?_set, hl] at h1 ⊢
  unfold upd
  by_cases e : f = i
  · subst e; simp [hi]
  · rw [if_neg e, if_neg (fun h => e h.symm)]; exact h1
theorem rs_take (B : Nat) (w : World) (v : Value) (n : Nat) (os : Nat → Int) (fr : List Nat) (o m er : Int) (os' : Nat → Int) (fr' : List Nat) (h : RR B w v n os fr) (hBw : B ≤ w.heap.size) (hn : n ≤ 1024) (ht : TK n os fr o m er os' fr') :
    Calls Try.prog 19 #[v, .int .i64 o] w fun e w' => ∃ v', e = .returned (.tuple #[v', .int .i64 m, .int .i64 er]) ∧ RR B w' v' n os' fr' ∧ Below w.heap.size w w' := by
  obtain ⟨rl, h1, h2, h3⟩ := h
  cases ht with
  | bad _ _ ho =>
    refine (rtake_bad B w v rl (icast fr) o h1 ho).mono ?_
    rintro e w' ⟨rfl, b⟩
    exact ⟨_, rfl, ⟨rl, h1.keep b, h2, h3⟩, b⟩
  | none _ ho =>
    refine (rtake_none B w v rl o h1 ho).mono ?_
    rintro e w' ⟨rfl, b⟩
    exact ⟨_, rfl, ⟨rl, h1.keep b, h2, h3⟩, b⟩
  | some f fs _ ho hf =>
    refine (rtake_any B w v rl f (icast fr') o h1 hBw ho (by omega) (by omega)).mono ?_
    rintro e w' ⟨v', rfl, r, b⟩
    exact ⟨_, rfl, ⟨_, r, by simpa using h2, rl_upd h2 h3 f o⟩, b⟩
theorem rs_give (B : Nat) (w : World) (v : Value) (n : Nat) (os : Nat → Int) (fr : List Nat) (i er : Int) (os' : Nat → Int) (fr' : List Nat) (h : RR B w v n os fr) (hBw : B ≤ w.heap.size) (hn : n ≤ 1024) (hfl : fr.length ≤ 1024) (ht : GV n os fr i er os' fr') :
    Calls Try.prog 18 #[v, .int .i64 i] w fun e w' => ∃ v', e = .returned (.tuple #[v', .int .i64 er]) ∧ RR B w' v' n os' fr' ∧ Below w.heap.size w w' := by
  obtain ⟨rl, h1, h2, h3⟩ := h
  cases ht with
  | out _ ho =>
    refine (rgive_out B w v rl (icast fr) i h1 (by rw [h2]; exact ho)).mono ?_
    rintro e w' ⟨rfl, b⟩
    exact ⟨_, rfl, ⟨rl, h1.keep b, h2, h3⟩, b⟩
  | free j hj hf =>
    refine (rgive_none B w v rl (icast fr) j h1 (by omega) (by rw [h3 j hj]; exact hf)).mono ?_
    rintro e w' ⟨rfl, b⟩
    exact ⟨_, rfl, ⟨rl, h1.keep b, h2, h3⟩, b⟩
  | some j hj hf =>
    refine (rgive_any B w v rl (icast fr) j h1 (by omega) (by rw [h3 j hj]; exact hf) hBw (by omega) (by simpa [icast] using hfl)).mono ?_
    rintro e w' ⟨v', rfl, r, b⟩
    exact ⟨_, rfl, ⟨_, r, by simpa using h2, rl_upd h2 h3 j (-1)⟩, b⟩
theorem rs_owner (B : Nat) (w : World) (v : Value) (n : Nat) (os : Nat → Int) (fr : List Nat) (i : Int) (h : RR B w v n os fr) :
    Calls Try.prog 11 #[v, .int .i64 i] w fun e w' => e = .returned (.int .i64 (ownS n os i)) ∧ Below w.heap.size w w' := by
  obtain ⟨rl, h1, h2, h3⟩ := h
  refine (rowner_any B w v rl (icast fr) i h1).mono ?_
  rintro e w' ⟨rfl, b⟩
  refine ⟨?_, b⟩
  have : ownS rl.length (fun j => rl.getD j 0) i = ownS n os i := by
    rw [h2]
    unfold ownS
    split
    · rfl
    · exact h3 _ (by omega)
  rw [this]
theorem RR.keep {B : Nat} {w w' : World} {v : Value} {n : Nat} {os : Nat → Int} {fr : List Nat} (h : RR B w v n os fr) (k : Below w.heap.size w w') : RR B w' v n os fr := by
  obtain ⟨rl, h1, h2⟩ := h
  exact ⟨rl, h1.keep k, h2⟩
theorem RR.keepS {S : Nat → Prop} {B : Nat} {w w' : World} {v : Value} {n : Nat} {os : Nat → Int} {fr : List Nat} (h : RR B w v n os fr) (k : Keep S w w') (hS : ∀ i, B ≤ i → ¬ S i) : RR B w' v n os fr := by
  obtain ⟨rl, ⟨vo, vf, e, h1, h2⟩, h3⟩ := h
  exact ⟨rl, ⟨vo, vf, e, h1.keepS k hS, h2.keepS k hS⟩, h3⟩
theorem RR.keep1 {B : Nat} {w w' : World} {v : Value} {n : Nat} {os : Nat → Int} {fr : List Nat} (h : RR B w v n os fr) {g : Nat} {v1 v2 : Value} {t : TypeId} (k : Keep (fun i => i = g) w w') (hb : w.heap[g]? = some (.cells #[v1, v2] t (0, 0)))
    (h1 : ∀ x : Int, v1 ≠ .int .i64 x) (h2 : ∀ x : Int, v2 ≠ .int .i64 x) : RR B w' v n os fr := by
  obtain ⟨rl, ⟨vo, vf, e, l1, l2⟩, l3⟩ := h
  have hc : ∀ (i : Nat) (x : Int), (#[v1, v2] : Array Value)[i]? ≠ some (Value.int .i64 x) := fun i x => by
    match i with
    | 0 => simpa using h1 x
    | 1 => simpa using h2 x
    | i + 2 => simp
  exact ⟨rl, ⟨vo, vf, e, lv_keep1 l1 k hb hc, lv_keep1 l2 k hb hc⟩, l3⟩
/-- the reference's value is two slices -/
theorem RR.val {B : Nat} {w : World} {v : Value} {n : Nat} {os : Nat → Int} {fr : List Nat} (h : RR B w v n os fr) : ∃ a1 c1 a2 c2, v = .agg #[.slice a1 n c1, .slice a2 fr.length c2] := by
  obtain ⟨rl, ⟨vo, vf, rfl, ⟨a1, c1, rfl, _⟩, ⟨a2, c2, rfl, _⟩⟩, hl, _⟩ := h
  exact ⟨a1, c1, a2, c2, by rw [hl]; simp [icast]⟩
end Go.Proofs.Ytlajbgopidllbaa
