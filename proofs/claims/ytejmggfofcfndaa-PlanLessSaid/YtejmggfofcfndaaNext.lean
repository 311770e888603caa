/- The contract of plan.Next. -/
import Derived.Test.YtejmggfofcfndaaDel
namespace Go.Proofs.Ytejmggfofcfndaa
open Go.RowKit

theorem adj_sets (l : List Int) (m : Nat) (h : l.length = m + 1) (h1 : 1 ≤ m) : (l.set 0 (l.getD 0 0 + 1)).set m (l.getD m 0 - 1) = adjP l := by
  apply List.ext_getElem
  · simp [adjP_length]
  · intro k h2 h3
    have hk : k < l.length := by simpa using h2
    have e := adj_getD l k (by omega) hk
    have e2 : (adjP l).getD k 0 = (adjP l)[k] := by simp [List.getD, h3]
    rw [← e2, e]
    simp only [List.getElem_set]
    by_cases hm : m = k
    · subst hm
      rw [if_pos rfl, if_neg (by omega), if_pos (by omega)]
    · rw [if_neg hm]
      by_cases h0 : k = 0
      · subst h0
        rw [if_pos rfl, if_pos rfl]
      · rw [if_neg (fun h => h0 h.symm), if_neg h0, if_neg (by omega)]
        simp [List.getD, hk]

set_option maxHeartbeats 2000000 in
theorem next_any (B : Nat) (w : World) (v : Value) (l : List Int) (b : Int) (h : LV B w v l) (hBw : B ≤ w.heap.size) (hl : l.length ≤ 12) (hb : b ≤ 20) (hm : mayP l b = true) :
    Calls Try.prog 15 #[v, .int .i64 b] w fun e w' => ∃ v', e = .returned v' ∧ LV B w' v' (nextP l b) ∧ Below w.heap.size w w' := by
  have hmf : ∀ (fn : Fn) (first cap : Array Value) (w : World), (Instr.makeFunc fn first cap).run Try.prog w = .ok (.func fn first cap) w := fun _ _ _ _ => rfl
  have bE : Below w.heap.size w (w.alloc (.cells #[.int .i64 b] 3)) := (Below.refl _ _).alloc (Nat.le_refl _) _
  have H := Lib.hid (h.keep bE)
  have Hm := Lib.hid hm
  obtain ⟨a, c, rfl, hc, hmx, _, _⟩ := h
  unfold maxLen at hmx
  have BE := Lib.hid bE
  clear hm bE
  by_cases h2 : l.length < 2
  · have en := Lib.hid (next_small b h2)
    go_enter Try.func15, Try.ntmps15
    go_wp2_with fail
    go_ret
    exact ⟨_, rfl, by rw [en.out]; exact H.out, BE.out⟩
  · obtain ⟨m, hlm⟩ : ∃ m, l.length = m + 1 := ⟨l.length - 1, by omega⟩
    have hm1 : 1 ≤ m := by omega
    have en : Hid (nextP l b = (adjP l).filter (keepP b)) := Lib.hid (if_neg h2)
    have Hadj := Lib.hid (adj_sets l m hlm hm1)
    have hx0 := may_at Hm.out (k := 0) (by omega)
    have hxm := may_at Hm.out (k := m) (by omega)
    have hcl := clone_any B _ _ l H.out (by omega)
    rw [hlm] at hcl
    have Hcl := Lib.hid hcl
    have Hlm := Lib.hid hlm
    rw [hlm] at hl h2 hc ⊢
    clear hcl hlm
    go_enter Try.func15, Try.ntmps15
    go_wp2_with fail
    refine Hcl.out.mono ?_
    rintro e w3 ⟨v3, rfl, o3, b3⟩
    obtain ⟨g, cap, hv, hgg, hcap, hcapm, hcells, hfz⟩ := own_head o3 (by omega) Hlm.out
    subst hv
    have O3 := Lib.hid o3
    have c0 := hcells 0 (by omega)
    have cm := hcells m (by omega)
    have f0 := hfz 0
    have fm := hfz m
    have m0 : m ≠ 0 := by omega
    have bx := below_blk b3 (blk_new w (.cells #[.int .i64 b] 3)) (by simp)
    have Bx := Lib.hid bx
    have B3 := Lib.hid (BE.out.trans (b3.mono (by simp)))
    have hsz : w.heap.size + 1 ≤ w3.heap.size := by have := b3.size; simpa using this
    simp only [World.size_alloc] at hgg
    clear o3 hcells hfz bx b3
    generalize hz0 : l.getD 0 0 = z0 at hx0 c0 Hadj
    generalize hzm : l.getD m 0 = zm at hxm cm Hadj
    clear hz0 hzm
    go_wp2_with fail
    have o5 := own_set (i := m) (zm - 1) (own_set (i := 0) (z0 + 1) O3.out)
    rw [Hadj.out, World.size_alloc] at o5
    have hK5 : Keep (fun k => w.heap.size + 1 ≤ k) w3 ((w3.setCell ⟨g, 0, none⟩ (.int .i64 (z0 + 1))).setCell ⟨g, m, none⟩ (.int .i64 (zm - 1))) := ((Keep.refl (fun k => w.heap.size + 1 ≤ k) w3).setCell (.inl hgg) _).setCell (.inl hgg) _
    have ha : (adjP l).length = m + 1 := by rw [adjP_length]; exact Hlm.out
    refine (delete_any (w.heap.size + 1) _ _ (adjP l) w.heap.size b (by rw [ha]; exact o5) (by omega) (hK5.blk Bx.out (by omega)) (by omega)).mono ?_
    rintro e w6 ⟨v6, rfl, l6, k6⟩
    have L6 := Lib.hid l6
    have b6 : Below w.heap.size w w6 := below_keep (below_keep B3.out hK5 B3.out.size (fun i hi => by omega)) k6 (Nat.le_trans B3.out.size hK5.size) (fun i hi => by omega)
    clear o5 l6 hK5 ha
    go_wp2_with fail
    go_ret
    exact ⟨_, rfl, by rw [en.out]; exact L6.out.lower (by omega), b6⟩
end Go.Proofs.Ytejmggfofcfndaa
