/- What a take, and a give, of a slot comes to. -/
import Derived.Test.YtkbifnbblimnlaaNew
namespace Go.Proofs.Ytkbifnbblimnlaa
open Go.RowKit
set_option linter.unusedVariables false

inductive TK (n : Nat) (gn : Nat → Int) (lv : Nat → Bool) : List Nat → Int → Int → Int → (Nat → Bool) → List Nat → Prop
  | none : TK n gn lv [] 0 0 4 lv []
  | some (f fs) : f < n → 1 ≤ gn f → gn f ≤ 1023 → TK n gn lv (f :: fs) (gn f * 4096 + f) f 0 (updB lv f true) fs
inductive GV (n : Nat) (gens : Int) (gn : Nat → Int) (lv : Nat → Bool) (fr : List Nat) (h : Int) : Int → (Nat → Int) → (Nat → Bool) → List Nat → Prop
  | bad : (lookS n lv gn h).2 ≠ 0 → GV n gens gn lv fr h (lookS n lv gn h).2 gn lv fr
  | over (i : Nat) : i < n → lookS n lv gn h = ((i : Int), 0) → lv i = true → 1 ≤ gn i → gn i ≤ 1023 → gens < gn i + 1 → GV n gens gn lv fr h 0 (upd gn i (gn i + 1)) (updB lv i false) fr
  | free (i : Nat) : i < n → lookS n lv gn h = ((i : Int), 0) → lv i = true → 1 ≤ gn i → gn i ≤ 1023 → gn i + 1 ≤ gens → GV n gens gn lv fr h 0 (upd gn i (gn i + 1)) (updB lv i false) (i :: fr)

theorem updB_same {f : Nat → Bool} {i : Nat} {b : Bool} : updB f i b i = b := by unfold updB; rw [if_pos rfl]
theorem updB_other {f : Nat → Bool} {i j : Nat} {b : Bool} (h : j ≠ i) : updB f i b j = f j := by unfold updB; rw [if_neg h]
theorem upd_same {f : Nat → Int} {i : Nat} {v : Int} : upd f i v i = v := by unfold upd; rw [if_pos rfl]
theorem upd_other {f : Nat → Int} {i j : Nat} {v : Int} (h : j ≠ i) : upd f i v j = f j := by unfold upd; rw [if_neg h]

theorem ps_take (w : World) (g gs n : Nat) (gens : Int) (gn : Nat → Int) (lv : Nat → Bool) (fr : List Nat) (ht : TA w g gs n gens gn lv fr) :
    Calls Try.prog 17 #[ptr g] w fun e w' => ∃ h s er lv' fr', e = .returned (.tuple #[.int .i64 h, .int .i64 s, .int .i64 er]) ∧ TK n gn lv fr h s er lv' fr' ∧ TA w' g gs n gens gn lv' fr' ∧ Keep (fun k => k = g ∨ k = gs) w w' := by
  obtain ⟨inv, wh, nx, head, m2, b, c, d, hw⟩ := ht
  have hn := b.2.2.2
  cases fr with
  | nil =>
    obtain rfl : head = n := d
    refine (take_none w g gs n gens wh gn nx _ _ _ b).mono ?_
    rintro e w' ⟨rfl, k⟩
    exact ⟨_, _, _, _, _, rfl, .none, ⟨inv, wh, nx, n, m2, b.keep k (fun h => h) (fun h => h), c, rfl, hw⟩, k.mono (fun _ h => h.elim)⟩
  | cons f fs =>
    obtain ⟨rfl, d2⟩ := d
    obtain ⟨hf1, hf2, hf3⟩ := inv.free f List.mem_cons_self
    have hp := inv.pos f hf1
    have hg2 := inv.g2
    have hnd := List.nodup_cons.1 inv.nodup
    have hl : (f :: fs).length = fs.length + 1 := rfl
    have hlu := lives_upd lv f true n hf1
    rw [hf2] at hlu
    simp at hlu
    refine (take_some w g gs n f gens wh gn nx _ _ _ b hf1 (by rw [hw f hf1]; unfold whF; simp [hf2]) ⟨hp, by omega⟩ (by omega) (by omega) (by omega)).mono ?_
    rintro e w' ⟨rfl, t, k⟩
    refine ⟨_, _, _, _, _, rfl, .some f fs hf1 hp (by omega), ⟨⟨hnd.2, fun x hx => ?_, fun i hi h => ?_, inv.pos, inv.g1, hg2⟩, upd wh f 1, nx, nx f, m2, ?_, by omega, d2, fun i hi => ?_⟩, k⟩
    · have h1 := inv.free x (List.mem_cons_of_mem _ hx)
      have hne : x ≠ f := fun e => hnd.1 (by rw [← e]; exact hx)
      exact ⟨h1.1, by rw [updB_other hne]; exact h1.2.1, h1.2.2⟩
    · by_cases e : i = f
      · rw [e]; exact hf3
      · rw [updB_other e] at h; exact inv.live i hi h
    · rw [hl] at t
      have e1 : ((fs.length + 1 : Nat) : Int) - 1 = (fs.length : Int) := by omega
      have e2 : ((lives lv n : Nat) : Int) + 1 = ((lives (updB lv f true) n : Nat) : Int) := by omega
      rw [e1, e2] at t
      exact t
    · by_cases e : i = f
      · subst e; rw [upd_same]; unfold whF; rw [updB_same]; rfl
      · rw [upd_other e, hw i hi]
        unfold whF
        rw [updB_other e]
        simp [e]
theorem ps_give (w : World) (g gs n : Nat) (gens : Int) (gn : Nat → Int) (lv : Nat → Bool) (fr : List Nat) (h : Int) (ht : TA w g gs n gens gn lv fr) (hl : -9223372036854775808 ≤ h ∧ h ≤ 9223372036854775807) :
    Calls Try.prog 18 #[ptr g, .int .i64 h] w fun e w' => ∃ er gn' lv' fr', e = .returned (.int .i64 er) ∧ GV n gens gn lv fr h er gn' lv' fr' ∧ TA w' g gs n gens gn' lv' fr' ∧ Keep (fun k => k = g ∨ k = gs) w w' := by
  have ht0 := ht
  obtain ⟨inv, wh, nx, head, m2, b, c, d, hw⟩ := ht
  have hn := b.2.2.2
  have hco : lookS n (fun i => wh i == 1) gn h = lookS n lv gn h := look_congr (fun i hi => by rw [hw i hi, wh_live])
  by_cases hb : (lookS n lv gn h).2 = 0
  · obtain ⟨i, hi, hs, hgi, hli, hok, _, _⟩ := lookS_ok hb
    have hp := inv.pos i hi
    have hle := inv.live i hi hli
    have hg2 := inv.g2
    have hlu := lives_upd lv i false n hi
    rw [hli] at hlu
    simp at hlu
    have hnf : i ∉ fr := fun hm => by have := (inv.free i hm).2.1; rw [hli] at this; cases this
    have hwi : wh i = 1 := by rw [hw i hi]; unfold whF; rw [hli]; rfl
    have e2 : ((lives lv n : Nat) : Int) - 1 = ((lives (updB lv i false) n : Nat) : Int) := by omega
    by_cases hge : gens < gn i + 1
    · refine (give_over w g gs n i gens wh gn nx head _ _ _ h b hl hi (by rw [hco]; exact hok) hwi ⟨hp, by omega⟩ hge hg2 (by omega) (by omega) (by omega)).mono ?_
      rintro e w' ⟨rfl, t, k⟩
      rw [e2] at t
      refine ⟨_, _, _, _, rfl, .over i hi hok hli hp (by omega) hge, ⟨⟨inv.nodup, fun x hx => ?_, fun j hj h => ?_, fun j hj => ?_, inv.g1, hg2⟩, upd wh i 2, nx, head, m2 + 1, t, by omega, d, fun j hj => ?_⟩, k⟩
      · have h1 := inv.free x hx
        have hne : x ≠ i := fun e => hnf (by rw [← e]; exact hx)
        exact ⟨h1.1, by rw [updB_other hne]; exact h1.2.1, by rw [upd_other hne]; exact h1.2.2⟩
      · by_cases e : j = i
        · rw [e, updB_same] at h; cases h
        · rw [updB_other e] at h; rw [upd_other e]; exact inv.live j hj h
      · by_cases e : j = i
        · rw [e, upd_same]; omega
        · rw [upd_other e]; exact inv.pos j hj
      · by_cases e : j = i
        · subst e; rw [upd_same]; unfold whF; rw [updB_same]; simp [hnf]
        · rw [upd_other e, hw j hj]; unfold whF; rw [updB_other e]
    · have hlt : fr.length < n := by omega
      refine (give_free w g gs n i gens wh gn nx head _ _ _ h b hl hi (by rw [hco]; exact hok) hwi ⟨hp, by omega⟩ (by omega) hg2 (by omega) (by omega) (by omega)).mono ?_
      rintro e w' ⟨rfl, t, k⟩
      rw [e2] at t
      refine ⟨_, _, _, _, rfl, .free i hi hok hli hp (by omega) (by omega), ⟨⟨List.nodup_cons.2 ⟨hnf, inv.nodup⟩, fun x hx => ?_, fun j hj h => ?_, fun j hj => ?_, inv.g1, hg2⟩, upd wh i 0, upd nx i head, i, m2, ?_, by simp; omega, ⟨rfl, ?_⟩, fun j hj => ?_⟩, k⟩
      · rcases List.mem_cons.1 hx with rfl | hx
        · exact ⟨hi, updB_same, by rw [upd_same]; omega⟩
        · have h1 := inv.free x hx
          have hne : x ≠ i := fun e => hnf (by rw [← e]; exact hx)
          exact ⟨h1.1, by rw [updB_other hne]; exact h1.2.1, by rw [upd_other hne]; exact h1.2.2⟩
      · by_cases e : j = i
        · rw [e, updB_same] at h; cases h
        · rw [updB_other e] at h; rw [upd_other e]; exact inv.live j hj h
      · by_cases e : j = i
        · rw [e, upd_same]; omega
        · rw [upd_other e]; exact inv.pos j hj
      · have e1 : ((fr.length : Nat) : Int) + 1 = ((i :: fr).length : Int) := by simp
        rw [e1] at t
        exact t
      · rw [upd_same]
        exact chain_upd nx n i head fr head hnf d
      · by_cases e : j = i
        · subst e; rw [upd_same]; unfold whF; rw [updB_same]; simp
        · rw [upd_other e, hw j hj]; unfold whF; rw [updB_other e]; simp [e]
  · refine (give_bad w g gs n gens wh gn nx head _ _ _ h b hl (by rw [hco]; exact hb)).mono ?_
    rintro e w' ⟨rfl, bb⟩
    rw [hco]
    exact ⟨_, _, _, _, rfl, .bad hb, ht0.below bb, Keep.of_below bb⟩
end Go.Proofs.Ytkbifnbblimnlaa
