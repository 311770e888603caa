/- The reference's Push (almeryref07), where it does something. -/
import Derived.Test.YthjbggdcninckaaRRing4
import Derived.Deep.Cut
namespace Go.Proofs.Ythjbggdcninckaa
open Go.RowKit
set_option linter.unusedVariables false

set_option maxHeartbeats 2000000 in
theorem rpush_ok (B : Nat → Prop) (w : World) (v : Value) (m n : Nat) (L : Nat → List Nat) (h : RV B w v m n L) (hBw : ∀ i, w.heap.size ≤ i → B i) (hm64 : m ≤ 64) {i y : Nat} (hy : y < n) (hi : i < m) (hno : ∀ j, j < m → ∀ z, z ∈ L j → (z : Int) ≠ y) (hl5 : (L i).length ≤ 5000) :
    Calls Try.prog 27 #[v, .int .i64 i, .int .i64 y] w fun e w' => ∃ v', e = .returned (.tuple #[v', .int .i64 0]) ∧ RV B w' v' m n (updL L i (y :: L i)) ∧ Below w.heap.size w w' := by
  obtain ⟨i0, ei, ez0, ez1, ez2⟩ := info_parts Try.infoI
  obtain ⟨aL, cL, rfl, hc⟩ := h.val
  have H := Lib.hid h
  have B0 := Lib.hid (((Below.refl w.heap.size w).alloc (Nat.le_refl _) (.cells #[.slice aL m cL, .int .i64 n] 29)).alloc (by simp) (.cells #[.slice none 0 0, .int .i64 0] 29))
  have X0 : Hid (((w.alloc (.cells #[.slice aL m cL, .int .i64 n] 29)).alloc (.cells #[.slice none 0 0, .int .i64 0] 29)).heap[w.heap.size]? = some (.cells #[.slice aL m cL, .int .i64 n] 29 (0, 0))) := Lib.hid (blk_alloc (blk_new w _) _)
  have X1 : Hid (((w.alloc (.cells #[.slice aL m cL, .int .i64 n] 29)).alloc (.cells #[.slice none 0 0, .int .i64 0] 29)).heap[w.heap.size + 1]? = some (.cells #[.slice none 0 0, .int .i64 0] 29 (0, 0))) := Lib.hid (by have := blk_new (w.alloc (.cells #[.slice aL m cL, .int .i64 n] 29)) (.cells #[.slice none 0 0, .int .i64 0] 29); simpa using this)
  obtain ⟨bo, off, ai, ci, rfl, hv, hcc, hel⟩ := h.row hi
  have HV0 := Lib.hid hv
  have HEL := Lib.hid hel
  have HBw := Lib.hid hBw
  obtain ⟨C, hC⟩ : ∃ C, C = y :: L i := ⟨_, rfl⟩
  rw [← hC]
  have HIC : Hid ([.int .i64 (y : Int)] ++ ilist (L i) = ilist C) := Lib.hid (by rw [hC]; rfl)
  have hCl : C.length = (L i).length + 1 := by rw [hC]; rfl
  have HCl := Lib.hid hCl
  have HNO := Lib.hid hno
  clear h hel hv hno hBw hC hCl
  generalize hll : (L i).length = ll at hcc hl5 HV0 HEL HCl
  have HLL := Lib.hid hll
  clear hll
  have HSS := Lib.hid (fun W (b : Below w.heap.size w W) (x : W.heap[w.heap.size]? = some (.cells #[.slice (some ⟨bo, off, none⟩) m cL, .int .i64 n] 29 (0, 0))) => (show Below w.heap.size w W ∧ W.cell? ⟨w.heap.size, 0, none⟩ = some (.slice (some ⟨bo, off, none⟩) m cL) ∧ W.cell? ⟨w.heap.size, 1, none⟩ = some (.int .i64 n) ∧ W.cell? ⟨bo, off + i, none⟩ = some (.slice ai ll ci) from ⟨b, (blk_cell x 0).trans rfl, (blk_cell x 1).trans rfl, HEL.out W b⟩))
  go_enter Try.func27, Try.ntmps27
  go_wp2_with fail
  refine (rplace_none B _ _ m n L (H.out.keep B0.out) (y : Int) HNO.out).mono ?_
  rintro e w2 ⟨rfl, b2⟩
  have X0_2 := Lib.hid (below_blk b2 X0.out (blk_lt X0.out))
  have X1_2 := Lib.hid (below_blk b2 X1.out (blk_lt X1.out))
  have B2 := Lib.hid (B0.out.trans (b2.mono B0.out.size))
  have HZ2 := b2.size
  simp only [World.size_alloc] at HZ2
  clear b2
  have y0 := blk_cell X0_2.out 0
  have y1 := blk_cell X0_2.out 1
  have s0 := blk_cell X1_2.out 0
  have s1 := blk_cell X1_2.out 1
  have t0 := blk_frozen X1_2.out 0
  have t1 := blk_frozen X1_2.out 1
  have BA : Hid (Below w2.heap.size w2 (w2.drew.alloc (.cells #[.int .i64 y] 3))) := Lib.hid ((below_drew (Below.refl w2.heap.size w2)).alloc (Nat.le_refl _) _)
  have oE : Hid ((w2.drew.alloc (.cells #[.int .i64 y] 3)).ownsRow w2.heap.size 3 1 (.slice (some ⟨w2.heap.size, 0, none⟩) 1 1) 1 [.int .i64 y]) := Lib.hid (own_one w2.drew w2.heap.size y (Nat.le_refl _))
  have RV1 : Hid (ReadV (w2.drew.alloc (.cells #[.int .i64 y] 3)) (.slice ai ll ci) ll (ilist (L i))) := Lib.hid (by have := vv_readV (HV0.out.keep (B2.out.trans (BA.out.mono B2.out.size))); rwa [ilist_len, HLL.out] at this)
  have HLB : Hid ((ilist (L i)).length = ll * 1) := Lib.hid (by rw [ilist_len, HLL.out]; omega)
  have HLN : Hid (1 + ll = C.length) := Lib.hid (by have := HCl.out; omega)
  go_upto_region 6 with fail
  go_region_held3 (fun W => Below w.heap.size w W ∧ W.cell? ⟨w.heap.size, 0, none⟩ = some (.slice (some ⟨bo, off, none⟩) m cL) ∧ W.cell? ⟨w.heap.size, 1, none⟩ = some (.int .i64 n) ∧ W.cell? ⟨bo, off + i, none⟩ = some (.slice ai ll ci))
    (first
      | exact HSS.out _ (below_drew B2.out) X0_2.out
      | exact HSS.out _ (B2.out.trans (BA.out.mono B2.out.size)) (blk_alloc X0_2.out _)
      | exact HSS.out _ B4.out X0_4.out
      | exact HSS.out _ B5.out X0_5.out
      | exact HSS.out _ BF.out X0_F.out)
    (first
      | (refine step_append_list _ rfl (.tmp 42) (.tmp 47) 42 rfl w2.heap.size 3 i0 (.int .i64 0) 1 8 Try.underlying42 ei ez0 ez1 ez2 rfl (by decide) _ _ _ rfl oE.out ll (ilist (L i)) RV1.out HLB.out (one_ilist _) (by unfold maxLen; omega) (by omega) BA.out.size ?_; intro v4 w4 o4 hg4; rw [HLN.out, HIC.out] at o4; have b4 : Below w2.heap.size w2 w4 := below_append BA.out oE.out (Keep.refl _ _) hg4 BA.out.size; have hz4 := b4.size; obtain ⟨a4, c4, rfl, hc4⟩ := own_slice o4; have HO4 := Lib.hid o4; have B4 := Lib.hid (B2.out.trans (b4.mono B2.out.size)); have X0_4 := Lib.hid (below_blk b4 X0_2.out (blk_lt X0_2.out)); have X1_4 := Lib.hid (below_blk b4 X1_2.out (blk_lt X1_2.out)); clear o4 hg4 b4)
      | (go_at_call 31; refine (rwith_any (fun j => B j ∧ j ≠ w.heap.size + 1) w4 _ m n L (((H.out.ltS).keep B4.out).mono (fun j hj => ⟨hj.1, by have := hj.2; omega⟩)) (fun j hj => ⟨HBw.out j (by omega), by omega⟩) hm64 hi a4 c4 C (vv_of_own HO4.out (fun j hj => ⟨HBw.out j (by omega), by omega⟩))).mono ?_; rintro e w5 ⟨v5, rfl, r5, b5⟩; obtain ⟨a5, c5, rfl, hc5⟩ := r5.val; have HR5 := Lib.hid r5; have X0_5 := Lib.hid (below_blk b5 X0_4.out (blk_lt X0_4.out)); have X1_5 := Lib.hid (below_blk b5 X1_4.out (blk_lt X1_4.out)); have B5 := Lib.hid (B4.out.trans (b5.mono B4.out.size)); have s05 := blk_cell X1_5.out 0; have s15 := blk_cell X1_5.out 1; have t05 := blk_frozen X1_5.out 0; have t15 := blk_frozen X1_5.out 1; have YF := blk_set (blk_set X1_5.out 0 (.slice a5 m c5)) 1 (.int .i64 n); have q0 := blk_cell YF 0; have q1 := blk_cell YF 1; have BF := Lib.hid (below1 (below1 B5.out (show w.heap.size ≤ w.heap.size + 1 by omega) B5.out.size 0 (.slice a5 m c5)) (show w.heap.size ≤ w.heap.size + 1 by omega) (by simp; exact B5.out.size) 1 (.int .i64 n)); have X0_F := Lib.hid (blk_far (blk_far X0_5.out (p := ⟨w.heap.size + 1, 0, none⟩) (show w.heap.size ≠ w.heap.size + 1 by omega) (.slice a5 m c5)) (p := ⟨w.heap.size + 1, 1, none⟩) (show w.heap.size ≠ w.heap.size + 1 by omega) (.int .i64 n)); clear YF b5 r5))
  all_goals
    rename_i hH
    have KF : Keep (fun j => j = w.heap.size + 1) w5 ((w5.setCell ⟨w.heap.size + 1, 0, none⟩ (.slice a5 m c5)).setCell ⟨w.heap.size + 1, 1, none⟩ (.int .i64 n)) := ((Keep.refl (fun j => j = w.heap.size + 1) w5).setCell (p := ⟨w.heap.size + 1, 0, none⟩) (.inl rfl) _).setCell (p := ⟨w.heap.size + 1, 1, none⟩) (.inl rfl) _
    have RF := Lib.hid ((HR5.out.keepS KF (fun j hj e => hj.2 e)).mono (B' := B) (fun j hj => hj.1))
    clear KF hH
    go_wp2_with fail
    refine bodyPost_ret (v := .tuple #[.agg #[.slice a5 m c5, .int .i64 n], .int .i64 0]) (by simp [results, Try.results27, go_sem, q0, q1]) rfl ⟨_, rfl, RF.out, BF.out⟩
end Go.Proofs.Ythjbggdcninckaa
