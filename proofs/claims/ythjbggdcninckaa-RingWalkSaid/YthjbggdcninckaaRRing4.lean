/- The reference's Drop and Push (almeryref07), where they do something. -/
import Derived.Test.YthjbggdcninckaaRRing3
import Derived.Test.YthjbggdcninckaaStep
namespace Go.Proofs.Ythjbggdcninckaa
open Go.RowKit
set_option linter.unusedVariables false

set_option maxHeartbeats 2000000 in
theorem rdrop_ok (B : Nat → Prop) (w : World) (v : Value) (m n : Nat) (L : Nat → List Nat) (h : RV B w v m n L) (hBw : ∀ i, w.heap.size ≤ i → B i) (hm64 : m ≤ 64) {i y : Nat} {a b : List Nat} (hy : y < n) (hi : i < m) (hL : L i = a ++ y :: b) (hna : y ∉ a) (hno : ∀ j, j < i → y ∉ L j) (hl5 : (L i).length ≤ 5000) :
    Calls Try.prog 26 #[v, .int .i64 y] w fun e w' => ∃ v', e = .returned (.tuple #[v', .int .i64 0]) ∧ RV B w' v' m n (updL L i (a ++ b)) ∧ Below w.heap.size w w' := by
  obtain ⟨i0, ei, ez0, ez1, ez2⟩ := info_parts Try.infoI
  obtain ⟨aL, cL, rfl, hc⟩ := h.val
  have H := Lib.hid h
  have B0 := Lib.hid (((Below.refl w.heap.size w).alloc (Nat.le_refl _) (.cells #[.slice aL m cL, .int .i64 n] 29)).alloc (by simp) (.cells #[.slice none 0 0, .int .i64 0] 29))
  have X0 : Hid (((w.alloc (.cells #[.slice aL m cL, .int .i64 n] 29)).alloc (.cells #[.slice none 0 0, .int .i64 0] 29)).heap[w.heap.size]? = some (.cells #[.slice aL m cL, .int .i64 n] 29 (0, 0))) := Lib.hid (blk_alloc (blk_new w _) _)
  have X1 : Hid (((w.alloc (.cells #[.slice aL m cL, .int .i64 n] 29)).alloc (.cells #[.slice none 0 0, .int .i64 0] 29)).heap[w.heap.size + 1]? = some (.cells #[.slice none 0 0, .int .i64 0] 29 (0, 0))) := Lib.hid (by have := blk_new (w.alloc (.cells #[.slice aL m cL, .int .i64 n] 29)) (.cells #[.slice none 0 0, .int .i64 0] 29); simpa using this)
  obtain ⟨bo, off, ai, ci, rfl, hv, hcc, hel⟩ := h.row hi
  have HV0 := Lib.hid hv
  have HEL := Lib.hid hel
  have HBw := Lib.hid hBw
  obtain ⟨C, hC⟩ : ∃ C, C = a ++ b := ⟨_, rfl⟩
  rw [← hC]
  have HCC := Lib.hid hC
  clear hC
  have HNO := Lib.hid hno
  have HNA := Lib.hid hna
  have HLI := Lib.hid hL
  have HI := Lib.hid hi
  have hlen := congrArg List.length hL
  rw [List.length_append, List.length_cons] at hlen
  have htk : (L i).take a.length = a := by rw [hL]; simp
  have hdk : (L i).drop (a.length + 1) = b := by rw [hL, show a.length + 1 = (a ++ [y]).length from by simp, show a ++ y :: b = (a ++ [y]) ++ b from by simp]; exact List.drop_left
  have HTK := Lib.hid htk
  have HDK := Lib.hid hdk
  clear h hel hv hno hna hL hBw htk hdk
  generalize hll : (L i).length = ll at hcc hlen hl5 HV0 HEL
  have HLL := Lib.hid hll
  clear hll
  obtain ⟨k, hk⟩ : ∃ k, k = a.length := ⟨_, rfl⟩
  rw [← hk] at hlen HTK HDK
  have HK := Lib.hid hk
  clear hk
  have hkl : k < ll := by omega
  have hlb : b.length = ll - (k + 1) := by omega
  have HB1 := Lib.hid hlb
  clear hlen hlb
  by_cases hci : ci = k + 1
  · subst hci
    obtain rfl : ll = k + 1 := by omega
    have HA : Hid (VV B w (.slice ai k (k + 1)) (ilist a)) := Lib.hid (by have := vv_take HV0.out (k := k) (by rw [ilist_len, HLL.out]; omega); rwa [ilist_take, HTK.out] at this)
    have HD : Hid (VV B w (.slice ai 0 0) (ilist b)) := Lib.hid (by
      have h0 := vv_end HV0.out (k := k + 1) (by rw [ilist_len, HLL.out]) rfl
      have h1 := h0.2
      rwa [ilist_drop, HDK.out] at h1)
    have HLN : Hid (k + 0 = C.length) := Lib.hid (by have h1 := HB1.out; have h2 := HK.out; rw [HCC.out, List.length_append]; omega)
    have HIC : Hid (ilist a ++ ilist b = ilist C) := Lib.hid (by rw [HCC.out, ilist_app])
    have HLB : Hid ((ilist b).length = 0 * 1) := Lib.hid (by have h1 := HB1.out; rw [ilist_len]; omega)
    have HLA : Hid ((ilist a).length = k * 1) := Lib.hid (by have h2 := HK.out; rw [ilist_len]; omega)
    have hkci : (k : Int) ≤ (k + 1) := by omega
    have hkci2 : (k : Int) + 1 ≤ (k + 1) := by omega
    go_enter Try.func26, Try.ntmps26
    go_wp2_with fail
    refine (rplace_some B _ _ m n L (H.out.keep B0.out) HI.out HLI.out HNA.out HNO.out).mono ?_
    rw [← HK.out]
    rintro e w2 ⟨rfl, b2⟩
    have X0_2 := Lib.hid (below_blk b2 X0.out (blk_lt X0.out))
    have X1_2 := Lib.hid (below_blk b2 X1.out (blk_lt X1.out))
    have B2 := Lib.hid (B0.out.trans (b2.mono B0.out.size))
    have HZ2 := b2.size
    simp only [World.size_alloc] at HZ2
    clear b2
    have y0 := blk_cell X0_2.out 0
    have y1 := blk_cell X0_2.out 1
    have s0 := blk_cell X1_2.out 0
    have s1 := blk_cell X1_2.out 1
    have t0 := blk_frozen X1_2.out 0
    have t1 := blk_frozen X1_2.out 1
    have BE2 := Lib.hid (B2.out.alloc B2.out.size (.cells #[] 3))
    have z2 := HEL.out w2 B2.out
    have z2e := HEL.out _ BE2.out
    have X0e := blk_alloc X0_2.out (.cells #[] 3)
    have y0e := blk_cell X0e 0
    have oE : Hid ((w2.alloc (.cells #[] 3)).ownsRow w2.heap.size 3 1 (.slice (some ⟨w2.heap.size, 0, none⟩) 0 0) 0 []) := Lib.hid (own_empty w2 w2.heap.size 3 1 (Nat.le_refl _))
    have RV1 : Hid (ReadV (w2.alloc (.cells #[] 3)) (.slice ai k (k + 1)) k (ilist a)) := Lib.hid (by have := vv_readV (HA.out.keep BE2.out); rwa [ilist_len, ← HK.out] at this)
    clear X0e
    go_wp2_with (first
      | (at_builtin; ((refine wpList_append_list _ rfl (.tmp 27) (.tmp 34) 42 rfl w2.heap.size 3 i0 (.int .i64 0) 1 8 Try.underlying42 ei ez0 ez1 ez2 rfl (by decide) _ _ _ rfl oE.out k (ilist a) RV1.out HLA.out (one_ilist a) (by unfold maxLen; omega) (by omega) (by simp) ?_; intro v3 w3 o3 hg3; simp only [Nat.zero_add, List.nil_append] at o3; have b3 : Below w2.heap.size w2 w3 := below_append ((Below.refl _ _).alloc (Nat.le_refl _) _) oE.out (Keep.refl _ _) hg3 (by simp); have hz3 := b3.size; have B3 := Lib.hid (B2.out.trans (b3.mono B2.out.size)); have z3 := HEL.out w3 B3.out; have y03 := blk_cell (below_blk b3 X0_2.out (blk_lt X0_2.out)) 0; have RV2 := vv_readV (HD.out.keep B3.out); rw [HLB.out, Nat.mul_one] at RV2; have HRV2 := Lib.hid RV2; have HO3 := Lib.hid o3; have HG3 := Lib.hid b3; clear RV2 o3 hg3 b3)))
      | (at_builtin; ((refine wpList_append_list _ rfl (.tmp 36) (.tmp 44) 42 rfl w2.heap.size 3 i0 (.int .i64 0) 1 8 Try.underlying42 ei ez0 ez1 ez2 rfl (by decide) _ _ _ rfl HO3.out 0 (ilist b) HRV2.out HLB.out (one_ilist b) (by unfold maxLen; omega) (by omega) hz3 ?_; intro v4 w4 o4 hg4; rw [HLN.out, HIC.out] at o4; have b4 : Below w2.heap.size w2 w4 := below_append HG3.out HO3.out (Keep.refl _ _) hg4 HG3.out.size; have hz4 := b4.size; obtain ⟨a4, c4, rfl, hc4⟩ := own_slice o4; have HO4 := Lib.hid o4; have B4 := Lib.hid (B2.out.trans (b4.mono B2.out.size)); have X0_4 := Lib.hid (below_blk b4 X0_2.out (blk_lt X0_2.out)); have X1_4 := Lib.hid (below_blk b4 X1_2.out (blk_lt X1_2.out)); have y04 := blk_cell X0_4.out 0; have y14 := blk_cell X0_4.out 1; clear o4 hg4 b4))))
    have hw31 : w.heap.size + 1 < w4.heap.size := by omega
    refine (rwith_any (fun j => B j ∧ j ≠ w.heap.size + 1) w4 _ m n L (((H.out.ltS).keep B4.out).mono (fun j hj => ⟨hj.1, by have := hj.2; omega⟩)) (fun j hj => ⟨HBw.out j (by omega), by omega⟩) hm64 HI.out a4 c4 C (vv_of_own HO4.out (fun j hj => ⟨HBw.out j (by omega), by omega⟩))).mono ?_
    rintro e w5 ⟨v5, rfl, r5, b5⟩
    obtain ⟨a5, c5, rfl, hc5⟩ := r5.val
    have HR5 := Lib.hid r5
    have X0_5 := Lib.hid (below_blk b5 X0_4.out (blk_lt X0_4.out))
    have X1_5 := Lib.hid (below_blk b5 X1_4.out (blk_lt X1_4.out))
    have B5 := Lib.hid (B4.out.trans (b5.mono B4.out.size))
    have s05 := blk_cell X1_5.out 0
    have s15 := blk_cell X1_5.out 1
    have t05 := blk_frozen X1_5.out 0
    have t15 := blk_frozen X1_5.out 1
    clear b5 r5
    go_wp2_with fail
    have YF := blk_set (blk_set X1_5.out 0 (.slice a5 m c5)) 1 (.int .i64 n)
    have q0 := blk_cell YF 0
    have q1 := blk_cell YF 1
    have BF := Lib.hid (below1 (below1 B5.out (show w.heap.size ≤ w.heap.size + 1 by omega) B5.out.size 0 (.slice a5 m c5)) (show w.heap.size ≤ w.heap.size + 1 by omega) (by simp; exact B5.out.size) 1 (.int .i64 n))
    clear YF
    have KF : Keep (fun j => j = w.heap.size + 1) w5 ((w5.setCell ⟨w.heap.size + 1, 0, none⟩ (.slice a5 m c5)).setCell ⟨w.heap.size + 1, 1, none⟩ (.int .i64 n)) := ((Keep.refl (fun j => j = w.heap.size + 1) w5).setCell (p := ⟨w.heap.size + 1, 0, none⟩) (.inl rfl) _).setCell (p := ⟨w.heap.size + 1, 1, none⟩) (.inl rfl) _
    have RF := Lib.hid ((HR5.out.keepS KF (fun j hj e => hj.2 e)).mono (B' := B) (fun j hj => hj.1))
    clear KF
    refine bodyPost_ret (v := .tuple #[.agg #[.slice a5 m c5, .int .i64 n], .int .i64 0]) (by simp [results, Try.results26, go_sem, q0, q1]) rfl ⟨_, rfl, RF.out, BF.out⟩
  · have HA : Hid (VV B w (.slice ai k ci) (ilist a)) := Lib.hid (by have := vv_take HV0.out (k := k) (by rw [ilist_len, HLL.out]; omega); rwa [ilist_take, HTK.out] at this)
    have HD : Hid (VV B w (.slice (Option.map (fun x => x.add (k + 1)) ai) (ll - (k + 1)) (ci - (k + 1))) (ilist b)) := Lib.hid (by
      have h1 := vv_drop HV0.out (k := k + 1) (by rw [ilist_len, HLL.out]; omega) hci
      rwa [ilist_drop, HDK.out] at h1)
    have HLN : Hid (k + (ll - (k + 1)) = C.length) := Lib.hid (by have h1 := HB1.out; have h2 := HK.out; rw [HCC.out, List.length_append]; omega)
    have HIC : Hid (ilist a ++ ilist b = ilist C) := Lib.hid (by rw [HCC.out, ilist_app])
    have HLB : Hid ((ilist b).length = (ll - (k + 1)) * 1) := Lib.hid (by have h1 := HB1.out; rw [ilist_len]; omega)
    have HLA : Hid ((ilist a).length = k * 1) := Lib.hid (by have h2 := HK.out; rw [ilist_len]; omega)
    have hkci : (k : Int) ≤ ci := by omega
    have hkci2 : (k : Int) + 1 ≤ ll := by omega
    go_enter Try.func26, Try.ntmps26
    go_wp2_with fail
    refine (rplace_some B _ _ m n L (H.out.keep B0.out) HI.out HLI.out HNA.out HNO.out).mono ?_
    rw [← HK.out]
    rintro e w2 ⟨rfl, b2⟩
    have X0_2 := Lib.hid (below_blk b2 X0.out (blk_lt X0.out))
    have X1_2 := Lib.hid (below_blk b2 X1.out (blk_lt X1.out))
    have B2 := Lib.hid (B0.out.trans (b2.mono B0.out.size))
    have HZ2 := b2.size
    simp only [World.size_alloc] at HZ2
    clear b2
    have y0 := blk_cell X0_2.out 0
    have y1 := blk_cell X0_2.out 1
    have s0 := blk_cell X1_2.out 0
    have s1 := blk_cell X1_2.out 1
    have t0 := blk_frozen X1_2.out 0
    have t1 := blk_frozen X1_2.out 1
    have BE2 := Lib.hid (B2.out.alloc B2.out.size (.cells #[] 3))
    have z2 := HEL.out w2 B2.out
    have z2e := HEL.out _ BE2.out
    have X0e := blk_alloc X0_2.out (.cells #[] 3)
    have y0e := blk_cell X0e 0
    have oE : Hid ((w2.alloc (.cells #[] 3)).ownsRow w2.heap.size 3 1 (.slice (some ⟨w2.heap.size, 0, none⟩) 0 0) 0 []) := Lib.hid (own_empty w2 w2.heap.size 3 1 (Nat.le_refl _))
    have RV1 : Hid (ReadV (w2.alloc (.cells #[] 3)) (.slice ai k ci) k (ilist a)) := Lib.hid (by have := vv_readV (HA.out.keep BE2.out); rwa [ilist_len, ← HK.out] at this)
    clear X0e
    go_wp2_with (first
      | (at_builtin; ((refine wpList_append_list _ rfl (.tmp 27) (.tmp 34) 42 rfl w2.heap.size 3 i0 (.int .i64 0) 1 8 Try.underlying42 ei ez0 ez1 ez2 rfl (by decide) _ _ _ rfl oE.out k (ilist a) RV1.out HLA.out (one_ilist a) (by unfold maxLen; omega) (by omega) (by simp) ?_; intro v3 w3 o3 hg3; simp only [Nat.zero_add, List.nil_append] at o3; have b3 : Below w2.heap.size w2 w3 := below_append ((Below.refl _ _).alloc (Nat.le_refl _) _) oE.out (Keep.refl _ _) hg3 (by simp); have hz3 := b3.size; have B3 := Lib.hid (B2.out.trans (b3.mono B2.out.size)); have z3 := HEL.out w3 B3.out; have y03 := blk_cell (below_blk b3 X0_2.out (blk_lt X0_2.out)) 0; have RV2 := vv_readV (HD.out.keep B3.out); rw [HLB.out, Nat.mul_one] at RV2; have HRV2 := Lib.hid RV2; have HO3 := Lib.hid o3; have HG3 := Lib.hid b3; clear RV2 o3 hg3 b3)))
      | (at_builtin; ((refine wpList_append_list _ rfl (.tmp 36) (.tmp 44) 42 rfl w2.heap.size 3 i0 (.int .i64 0) 1 8 Try.underlying42 ei ez0 ez1 ez2 rfl (by decide) _ _ _ rfl HO3.out (ll - (k + 1)) (ilist b) HRV2.out HLB.out (one_ilist b) (by unfold maxLen; omega) (by omega) hz3 ?_; intro v4 w4 o4 hg4; rw [HLN.out, HIC.out] at o4; have b4 : Below w2.heap.size w2 w4 := below_append HG3.out HO3.out (Keep.refl _ _) hg4 HG3.out.size; have hz4 := b4.size; obtain ⟨a4, c4, rfl, hc4⟩ := own_slice o4; have HO4 := Lib.hid o4; have B4 := Lib.hid (B2.out.trans (b4.mono B2.out.size)); have X0_4 := Lib.hid (below_blk b4 X0_2.out (blk_lt X0_2.out)); have X1_4 := Lib.hid (below_blk b4 X1_2.out (blk_lt X1_2.out)); have y04 := blk_cell X0_4.out 0; have y14 := blk_cell X0_4.out 1; clear o4 hg4 b4))))
    have hw31 : w.heap.size + 1 < w4.heap.size := by omega
    refine (rwith_any (fun j => B j ∧ j ≠ w.heap.size + 1) w4 _ m n L (((H.out.ltS).keep B4.out).mono (fun j hj => ⟨hj.1, by have := hj.2; omega⟩)) (fun j hj => ⟨HBw.out j (by omega), by omega⟩) hm64 HI.out a4 c4 C (vv_of_own HO4.out (fun j hj => ⟨HBw.out j (by omega), by omega⟩))).mono ?_
    rintro e w5 ⟨v5, rfl, r5, b5⟩
    obtain ⟨a5, c5, rfl, hc5⟩ := r5.val
    have HR5 := Lib.hid r5
    have X0_5 := Lib.hid (below_blk b5 X0_4.out (blk_lt X0_4.out))
    have X1_5 := Lib.hid (below_blk b5 X1_4.out (blk_lt X1_4.out))
    have B5 := Lib.hid (B4.out.trans (b5.mono B4.out.size))
    have s05 := blk_cell X1_5.out 0
    have s15 := blk_cell X1_5.out 1
    have t05 := blk_frozen X1_5.out 0
    have t15 := blk_frozen X1_5.out 1
    clear b5 r5
    go_wp2_with fail
    have YF := blk_set (blk_set X1_5.out 0 (.slice a5 m c5)) 1 (.int .i64 n)
    have q0 := blk_cell YF 0
    have q1 := blk_cell YF 1
    have BF := Lib.hid (below1 (below1 B5.out (show w.heap.size ≤ w.heap.size + 1 by omega) B5.out.size 0 (.slice a5 m c5)) (show w.heap.size ≤ w.heap.size + 1 by omega) (by simp; exact B5.out.size) 1 (.int .i64 n))
    clear YF
    have KF : Keep (fun j => j = w.heap.size + 1) w5 ((w5.setCell ⟨w.heap.size + 1, 0, none⟩ (.slice a5 m c5)).setCell ⟨w.heap.size + 1, 1, none⟩ (.int .i64 n)) := ((Keep.refl (fun j => j = w.heap.size + 1) w5).setCell (p := ⟨w.heap.size + 1, 0, none⟩) (.inl rfl) _).setCell (p := ⟨w.heap.size + 1, 1, none⟩) (.inl rfl) _
    have RF := Lib.hid ((HR5.out.keepS KF (fun j hj e => hj.2 e)).mono (B' := B) (fun j hj => hj.1))
    clear KF
    refine bodyPost_ret (v := .tuple #[.agg #[.slice a5 m c5, .int .i64 n], .int .i64 0]) (by simp [results, Try.results26, go_sem, q0, q1]) rfl ⟨_, rfl, RF.out, BF.out⟩
end Go.Proofs.Ythjbggdcninckaa
