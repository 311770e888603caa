/- The reference's with, Push and Drop (almeryref07). -/
import Derived.Test.YthjbggdcninckaaRRing
import Derived.Deep.AppendLies
namespace Go.Proofs.Ythjbggdcninckaa
open Go.RowKit
set_option linter.unusedVariables false

theorem rv_set {B : Nat → Prop} {w' : World} {m n : Nat} {L : Nat → List Nat} {aR : Option Addr} {cR : Nat} {vs : List Value} (hvs : vs.length = m) (hin : ∀ i, i < m → ∃ a c, vs[i]? = some (.slice a (L i).length c) ∧ VV B w' (.slice a (L i).length c) (ilist (L i)))
    {i : Nat} (hi : i < m) {a : Option Addr} {c : Nat} {lu : List Nat} (hu : VV B w' (.slice a lu.length c) (ilist lu)) (hr : VV B w' (.slice aR m cR) (vs.set i (.slice a lu.length c))) : RV B w' (.agg #[.slice aR m cR, .int .i64 n]) m n (updL L i lu) := by
  obtain ⟨aR', cR', e, q1, q2, q3, q4⟩ := hr
  cases e
  refine ⟨aR, cR, vs.set i (.slice a lu.length c), rfl, List.length_set.trans hvs, ⟨by rw [List.length_set, hvs] at q1; exact q1, by unfold maxLen at q2; omega⟩, ⟨aR, cR, by rw [List.length_set, hvs], q1, q2, q3, q4⟩, fun j hj => ?_⟩
  by_cases e : j = i
  · subst e
    rw [updL_same]
    exact ⟨a, c, List.getElem?_set_self (by omega), hu⟩
  · rw [updL_other e]
    obtain ⟨a', c', h1, h2⟩ := hin j hj
    exact ⟨a', c', by rw [List.getElem?_set_ne (fun h => e h.symm)]; exact h1, h2⟩
set_option maxHeartbeats 2000000 in
theorem rwith_any (B : Nat → Prop) (w : World) (v : Value) (m n : Nat) (L : Nat → List Nat) (h : RV B w v m n L) (hBw : ∀ i, w.heap.size ≤ i → B i) (hm64 : m ≤ 64) {i : Nat} (hi : i < m) (a : Option Addr) (c : Nat) (lu : List Nat) (hu : VV B w (.slice a lu.length c) (ilist lu)) :
    Calls Try.prog 31 #[v, .int .i64 i, .slice a lu.length c] w fun e w' => ∃ v', e = .returned v' ∧ RV B w' v' m n (updL L i lu) ∧ Below w.heap.size w w' := by
  obtain ⟨i0, ei, ez0, ez1, ez2⟩ := info_parts Try.infoSl
  have hlt := h.ltS
  obtain ⟨aL, cL, vs, rfl, hvs, hcl, hvl, hin⟩ := hlt
  have hul := hu.lt
  have hBw' := Lib.hid hBw
  have hb : Below w.heap.size w (((w.alloc (.cells #[.slice aL m cL, .int .i64 n] 29)).alloc (.cells #[.slice none 0 0, .int .i64 0] 29)).alloc (.cells #[] 42)) := below3 w _ _ _
  have HB := Lib.hid hb
  have hvl2 := hvl.keep hb
  have Rv : Hid (ReadV (((w.alloc (.cells #[.slice aL m cL, .int .i64 n] 29)).alloc (.cells #[.slice none 0 0, .int .i64 0] 29)).alloc (.cells #[] 42)) (.slice aL m cL) m vs) := Lib.hid (by have := vv_readV hvl2; rwa [hvs] at this)
  have oE : Hid ((((w.alloc (.cells #[.slice aL m cL, .int .i64 n] 29)).alloc (.cells #[.slice none 0 0, .int .i64 0] 29)).alloc (.cells #[] 42)).ownsRow (w.heap.size + 1 + 1) 42 1 (.slice (some ⟨w.heap.size + 1 + 1, 0, none⟩) 0 0) 0 []) := Lib.hid (by
    have := own_empty ((w.alloc (.cells #[.slice aL m cL, .int .i64 n] 29)).alloc (.cells #[.slice none 0 0, .int .i64 0] 29)) (w.heap.size + 1 + 1) 42 1 (by simp)
    simpa using this)
  have X0 : Hid ((((w.alloc (.cells #[.slice aL m cL, .int .i64 n] 29)).alloc (.cells #[.slice none 0 0, .int .i64 0] 29)).alloc (.cells #[] 42)).heap[w.heap.size]? = some (.cells #[.slice aL m cL, .int .i64 n] 29 (0, 0))) := Lib.hid (blk_alloc (blk_alloc (blk_new w _) _) _)
  have X1 : Hid ((((w.alloc (.cells #[.slice aL m cL, .int .i64 n] 29)).alloc (.cells #[.slice none 0 0, .int .i64 0] 29)).alloc (.cells #[] 42)).heap[w.heap.size + 1]? = some (.cells #[.slice none 0 0, .int .i64 0] 29 (0, 0))) := Lib.hid (blk_alloc (by have := blk_new (w.alloc (.cells #[.slice aL m cL, .int .i64 n] 29)) (.cells #[.slice none 0 0, .int .i64 0] 29); simpa using this) _)
  have one : Hid (∀ u ∈ vs, u.oneCell' = true) := Lib.hid (fun u hu => by
    obtain ⟨j, hj, rfl⟩ := List.mem_iff_getElem.1 hu
    obtain ⟨a, c, e, _⟩ := hin j (by omega)
    rw [List.getElem?_eq_getElem hj] at e
    rw [Option.some.inj e]
    rfl)
  have HIN := Lib.hid hin
  have HU := Lib.hid hul
  have hvsl := Lib.hid hvs
  clear hb hvl2 hvl hin hu hul h hBw hvs
  go_enter Try.func31, Try.ntmps31
  go_wp2_with (at_builtin; refine wpList_append_list _ rfl (.tmp 8) (.tmp 10) 27 rfl (w.heap.size + 1 + 1) 42 i0 (.slice none 0 0) 1 24 Try.underlying27 ei ez0 ez1 ez2 rfl (by decide) _ _ _ rfl oE.out m vs Rv.out (by rw [hvsl.out]; omega) one.out (by unfold maxLen; omega) (by omega) (by simp) ?_; intro v3 w3 o3 hg3; simp only [Nat.zero_add, List.nil_append] at o3; obtain ⟨gr, cap, rfl, hgr, hgrl, hmc, hcm, hce, hfr⟩ := own_headV o3 (by omega); have k3 := keep_of_grown hg3; have x0 := k3.blk X0.out (fun e => absurd (Option.some.inj (show some (w.heap.size + 1 + 1) = some w.heap.size from e)) (by omega)); have x1 := k3.blk X1.out (fun e => absurd (Option.some.inj (show some (w.heap.size + 1 + 1) = some (w.heap.size + 1) from e)) (by omega)); have x00 := blk_cell x0 0; have x01 := blk_cell x0 1; have f00 := blk_frozen x0 0; have x10 := blk_cell x1 0; have x11 := blk_cell x1 1; have f10 := blk_frozen x1 0; have f11 := blk_frozen x1 1; obtain ⟨ui, hui⟩ : ∃ u, vs[i]? = some u := ⟨_, List.getElem?_eq_getElem (by rw [hvsl.out]; exact hi)⟩; have z0 := hce i ui hui; have fz := hfr i; have hn1 : gr ≠ w.heap.size := (by omega); have hn2 : gr ≠ w.heap.size + 1 := (by omega); have HCE := Lib.hid hce; have b3 := below_append HB.out (own_weaken oE.out (show w.heap.size ≤ w.heap.size + 1 + 1 by omega)) (Keep.refl _ _) hg3 HB.out.size; have HB3 := Lib.hid b3; have O3 := Lib.hid o3; have HX0 := Lib.hid x0; have HX1 := Lib.hid x1; clear hce hfr o3 hg3 b3 k3 x0 x1)
  have W1 := own_setV (i := i) (.slice a lu.length c) O3.out
  have K4 : Keep (fun k => k = w.heap.size ∨ k = w.heap.size + 1) (w3.setCell ⟨gr, i, none⟩ (.slice a lu.length c)) ((((w3.setCell ⟨gr, i, none⟩ (.slice a lu.length c)).setCell ⟨w.heap.size, 0, none⟩ (.slice (some ⟨gr, 0, none⟩) m cap)).setCell ⟨w.heap.size + 1, 0, none⟩ (.slice (some ⟨gr, 0, none⟩) m cap)).setCell ⟨w.heap.size + 1, 1, none⟩ (.int .i64 n)) := (((Keep.refl _ _).setCell (.inl (.inl rfl)) _).setCell (.inl (.inr rfl)) _).setCell (.inl (.inr rfl)) _
  have W2 := own_keep W1 K4 (fun k hk e => by have := (W1.lt k hk).1; omega)
  have B4 := below1 (below1 (below1 (below1 HB3.out (show w.heap.size ≤ gr by omega) HB3.out.size i (.slice a lu.length c)) (Nat.le_refl _) (by simp; exact HB3.out.size) 0 (.slice (some ⟨gr, 0, none⟩) m cap)) (show w.heap.size ≤ w.heap.size + 1 by omega) (by simp; exact HB3.out.size) 0 (.slice (some ⟨gr, 0, none⟩) m cap)) (show w.heap.size ≤ w.heap.size + 1 by omega) (by simp; exact HB3.out.size) 1 (.int .i64 n)
  have Y1 := blk_set (blk_set (blk_far (blk_far HX1.out (p := ⟨gr, i, none⟩) (show w.heap.size + 1 ≠ gr by omega) (.slice a lu.length c)) (p := ⟨w.heap.size, 0, none⟩) (show w.heap.size + 1 ≠ w.heap.size by omega) (.slice (some ⟨gr, 0, none⟩) m cap)) 0 (.slice (some ⟨gr, 0, none⟩) m cap)) 1 (.int .i64 n)
  have q0 := blk_cell Y1 0
  have q1 := blk_cell Y1 1
  have HW2 := Lib.hid W2
  have HB4 := Lib.hid B4
  clear W1 W2 K4 B4 Y1 x00 x01 x10 x11 f00 f10 f11 z0 fz
  generalize ((((w3.setCell ⟨gr, i, none⟩ (.slice a lu.length c)).setCell ⟨w.heap.size, 0, none⟩ (.slice (some ⟨gr, 0, none⟩) m cap)).setCell ⟨w.heap.size + 1, 0, none⟩ (.slice (some ⟨gr, 0, none⟩) m cap)).setCell ⟨w.heap.size + 1, 1, none⟩ (.int .i64 n)) = WF at HW2 HB4 q0 q1 ⊢
  refine bodyPost_ret (v := .agg #[.slice (some ⟨gr, 0, none⟩) m cap, .int .i64 n]) (by simp [results, Try.results31, go_sem, q0, q1]) rfl ⟨_, rfl, rv_set hvsl.out (fun j hj => ?_) hi (((HU.out.keep HB4.out).mono (fun i h => h.1))) (vv_of_own HW2.out (fun j hj => hBw'.out j (by omega))), HB4.out⟩
  obtain ⟨a', c', h1, h2⟩ := HIN.out j hj
  exact ⟨a', c', h1, (h2.keep HB4.out).mono (fun i h => h.1)⟩
end Go.Proofs.Ythjbggdcninckaa
