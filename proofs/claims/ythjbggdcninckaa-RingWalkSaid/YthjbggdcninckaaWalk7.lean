/- The walk through RingWalk. -/
import Derived.Test.YthjbggdcninckaaActs7
namespace Go.Proofs.Ythjbggdcninckaa
open Go.RowKit Go.Sort
set_option linter.unusedVariables false
attribute [local go_sem] Oper.semAt_some

theorem TR.step {w : World} {g gl gn m n : Nat} {L : Nat → List Nat} (h : TR w g gl gn m n L) {j q : Nat} (hj : j < m) (hq : q < (L j).length) : ∃ y : Nat, (L j)[q]? = some y ∧ hdq ((L j).drop q) (-1) = y ∧ OT m n L y j (hdq ((L j).drop (q + 1)) (-1)) := by
  obtain ⟨F, E, M, P, X, O, hr, hg⟩ := h
  have hd := List.drop_eq_getElem_cons hq
  have hL : L j = (L j).take q ++ (L j)[q] :: (L j).drop (q + 1) := by rw [← hd]; exact (List.take_append_drop q (L j)).symm
  have hm : (L j)[q] ∈ L j := List.getElem_mem hq
  refine ⟨(L j)[q], List.getElem?_eq_getElem hq, by rw [hd]; rfl, ?_⟩
  exact .some _ j _ _ rfl (hg.lt j hj _ hm) hj hL (hg.split hj hL).2.2.1 (fun i hi hne h => hne (hg.apart hi hj h hm))
set_option maxRecDepth 100000 in
set_option maxHeartbeats 4000000 in
theorem walkLaw_any (w : World) (A : Option Addr) (c : Nat) (zs : List Act) (hz : ReadA w A zs) (hlm : zs.length ≤ 9223372036854775807) :
    Calls Try.prog 5 #[.slice A zs.length c] w fun e w' => e = .returned (.bool true) ∧ Below w.heap.size w w' := by
  by_cases h30 : zs.length ≤ 30
  · obtain ⟨m, hm⟩ : ∃ m : Nat, m = 3 := ⟨_, rfl⟩
    obtain ⟨n, hn⟩ : ∃ n : Nat, n = 8 := ⟨_, rfl⟩
    have HM := Lib.hid hm
    have HN := Lib.hid hn
    have hm64 : m ≤ 64 := by omega
    have hn4 : n ≤ 4096 := by omega
    have Hz := Lib.hid hz
    clear hm hn hz
    go_enter Try.func5, Try.ntmps5
    go_wp2_with fail
    refine (awake_ok w).mono ?_
    rintro e w1 ⟨rfl, b1⟩
    have B1 := Lib.hid b1
    clear b1
    go_wp2_with fail
    refine (tr_new83 w1 m n HM.out HN.out).mono ?_
    rintro e w2 ⟨g, gl, gn, rfl, hg, hgl, hgn, t, b⟩
    have hz1 := B1.out.size
    have T2 := Lib.hid t
    have hlt2 := t.lt
    have B2 := Lib.hid (B1.out.trans (b.mono B1.out.size))
    clear t b
    go_wp2_with fail
    refine (rnew_any83 w2 m n HM.out HN.out).mono ?_
    rintro e w3 ⟨v, rfl, r, b3⟩
    obtain ⟨aL, cL, rfl, k1⟩ := r.val
    have hz3 := b3.size
    have bX : Below w3.heap.size w3 (w3.alloc (.cells #[.slice aL m cL, .int .i64 n] 29)) := (Below.refl w3.heap.size w3).alloc (Nat.le_refl _) _
    have T3 := Lib.hid ((T2.out.below b3).below bX)
    have R3 := Lib.hid ((r.ltS.mono (B' := fun i => w2.heap.size ≤ i ∧ i ≠ w3.heap.size) (fun i hi => by have := hi.2; have := hi.1; omega)).keep bX)
    have X3 := Lib.hid (blk_new w3 (.cells #[.slice aL m cL, .int .i64 n] 29))
    have B3 := Lib.hid ((B2.out.trans (b3.mono B2.out.size)).alloc (Nat.le_trans B2.out.size hz3) (.cells #[.slice aL m cL, .int .i64 n] 29))
    clear k1 r b3 bX
    go_wp2_with fail
    go_loopw [8] (fun i wr => ∃ (k : Nat) (L : Nat → List Nat) (aL : Option Addr) (cL : Nat), i = .int .i64 k ∧ k ≤ zs.length ∧ wr.heap[w3.heap.size]? = some (.cells #[.slice aL m cL, .int .i64 n] 29 (0, 0)) ∧ TR wr g gl gn m n L ∧ RV (fun i => w2.heap.size ≤ i ∧ i ≠ w3.heap.size) wr (.agg #[.slice aL m cL, .int .i64 n]) m n L ∧ Below w.heap.size w wr ∧ w3.heap.size < wr.heap.size) (fun i _ => zs.length - (intOf i).toNat)
    case atStart => exact ⟨0, _, _, _, rfl, Nat.zero_le _, X3.out, T3.out, R3.out, B3.out, by simp⟩
    case round =>
      obtain ⟨k, L, aL, cL, rfl, hk, hx, ht, hr, br, hzr⟩ := hrel
      have T := Lib.hid ht
      have HR := Lib.hid hr
      have HX := Lib.hid hx
      have BR := Lib.hid br
      clear ht hr br
      by_cases hlt : k < zs.length
      · have E := Hz.out.elem hlt
        obtain ⟨b, off, rfl, hel⟩ := E
        obtain ⟨act, hact⟩ : ∃ act, act = zs.getD k act0 := ⟨_, rfl⟩
        rw [← hact] at hel
        have Ha := Lib.hid hel
        have t := Ha.out wr BR.out
        obtain ⟨t0, t1, t2⟩ := t
        clear hact hx hel
        obtain ⟨d, l, x⟩ := act
        go_wp2_with fail
        refine (do_any wr g gl gn m n L T.out d l x).mono ?_
        rintro e w4 ⟨er, L', rfl, hp, t4, k4⟩
        have Ht := Lib.hid hp
        have T4 := Lib.hid t4
        have hsz4 := k4.size
        have X4 := Lib.hid (k4.blk HX.out (fun h => by omega))
        have R4 := Lib.hid (HR.out.keepS k4 (fun i hi h => by omega))
        have WFL := Lib.hid T.out.wf
        have B4 := Lib.hid (below_keep BR.out k4 BR.out.size (fun i hi => by omega))
        have TT := Lib.hid (Ha.out w4 B4.out)
        clear hp t4 k4 t0 t1 t2
        go_wp2_with fail
        have t0 := TT.out.1
        have t1 := TT.out.2.1
        have t2 := TT.out.2.2
        have y0 := blk_cell X4.out 0
        have y1 := blk_cell X4.out 1
        have HELD := Lib.hid (fun W (k : Below w4.heap.size w4 W) => held7 X4.out TT.out k)
        go_region_held3 (fun W => Below w4.heap.size w4 W ∧ W.cell? ⟨w3.heap.size, 0, none⟩ = some (.slice aL m cL) ∧ W.cell? ⟨w3.heap.size, 1, none⟩ = some (.int .i64 n) ∧ W.cell? ⟨b, off + k * 3, none⟩ = some (.bool d) ∧ W.cell? ⟨b, off + k * 3 + 1, none⟩ = some (.int .i64 l) ∧ W.cell? ⟨b, off + k * 3 + 2, none⟩ = some (.int .i64 x))
          (first
            | exact HELD.out _ (Below.refl _ _)
            | exact HELD.out _ (below_drew (Below.refl _ _))
            | exact HELD.out _ (below_drew ((Below.refl _ _).alloc (Nat.le_refl _) _))
            | exact HELD.out _ ((Below.refl _ _).alloc (Nat.le_refl _) _)
            | exact HELD.out _ b5'
            | exact HELD.out _ (b5'.alloc b5'.size _)
            | exact HELD.out _ (below1 (below1 b5' (Nat.le_refl _) b5'.size 0 _) (Nat.le_refl _) (by simp; exact b5'.size) 1 _))
          (first
            | (go_at_call 15; refine (rdo_any (fun i => (w2.heap.size ≤ i ∧ i ≠ w3.heap.size) ∧ i ≠ w4.heap.size) (w4.alloc (.cells #[.slice none 0 0, .int .i64 0] 29)).drew _ m n L ((R4.out.ltS.mono (B' := fun i => (w2.heap.size ≤ i ∧ i ≠ w3.heap.size) ∧ i ≠ w4.heap.size) (fun i hi => ⟨hi.1, by have := hi.2; omega⟩)).keep (below_drew ((Below.refl w4.heap.size w4).alloc (Nat.le_refl _) (.cells #[.slice none 0 0, .int .i64 0] 29)))) (fun i hi => by simp at hi; omega) hm64 WFL.out d l x er L' Ht.out).mono ?_; rintro e w5 ⟨v5, rfl, r5, b5⟩; have R5 := Lib.hid r5; obtain ⟨aQ, cQ, rfl, _⟩ := r5.val; clear r5; have hy := below_blk b5 (blk_drew (blk_new w4 (.cells #[.slice none 0 0, .int .i64 0] 29))) (by simp); have HY := Lib.hid hy; have hy0 := blk_cell hy 0; have hy1 := blk_cell hy 1; have hyf := blk_frozen hy 0; have hyg := blk_frozen hy 1; clear hy; have b5' : Below w4.heap.size w4 w5 := (below_drew ((Below.refl w4.heap.size w4).alloc (Nat.le_refl _) _)).trans (b5.mono (by simp)); clear b5)
            | (go_at_call 15; refine (rdo_any (fun i => w2.heap.size ≤ i ∧ i ≠ w3.heap.size) w4.drew _ m n L (R4.out.keep (below_drew (Below.refl w4.heap.size w4))) (fun i hi => by simp at hi; omega) hm64 WFL.out d l x er L' Ht.out).mono ?_; rintro e w5 ⟨v5, rfl, r5, b5⟩; have R5 := Lib.hid r5; obtain ⟨aQ, cQ, rfl, _⟩ := r5.val; clear r5; have b5' : Below w4.heap.size w4 w5 := (below_drew (Below.refl w4.heap.size w4)).trans (b5.mono (Nat.le_refl _)); clear b5))
        all_goals
          rename_i hH
          first
            | (have bY : Below w4.heap.size w4 (w5.alloc (.cells #[.slice aQ m cQ, .int .i64 n] 29)) := hH.1; have hY := blk_new w5 (.cells #[.slice aQ m cQ, .int .i64 n] 29); have RY := Lib.hid (R5.out.keep ((Below.refl _ _).alloc (Nat.le_refl _) (.cells #[.slice aQ m cQ, .int .i64 n] 29))); have hgy : w4.heap.size ≤ w5.heap.size := b5'.size; clear hH; generalize w5.alloc (.cells #[.slice aQ m cQ, .int .i64 n] 29) = WY at bY hY RY ⊢; generalize w5.heap.size = gy at hY hgy ⊢)
            | (have F := fill7 (.slice aQ m cQ) (.int .i64 n) HY.out b5' b5'.size (Nat.le_refl _); obtain ⟨bY, hY, kY⟩ := F; have RY := Lib.hid ((R5.out.keepS kY (fun i hi h => hi.2 h)).mono (B' := fun i => w2.heap.size ≤ i ∧ i ≠ w3.heap.size) (fun i hi => hi.1)); clear hH kY; generalize ((w5.setCell ⟨w4.heap.size, 0, none⟩ (.slice aQ m cQ)).setCell ⟨w4.heap.size, 1, none⟩ (.int .i64 n)) = WY at bY hY RY ⊢; generalize hgz : w4.heap.size = gy at hY ⊢; have hgy : w4.heap.size ≤ gy := Nat.le_of_eq hgz; clear hgz)
          have xy := below_blk bY X4.out (by omega)
          have pY := Lib.hid (T4.out.below bY)
          have bw := Lib.hid (B4.out.trans (bY.mono B4.out.size))
          have hzY := bY.size
          have cy0 := blk_cell hY 0
          have cy1 := blk_cell hY 1
          have cf0 := blk_frozen xy 0
          have cf1 := blk_frozen xy 1
          have cx0 := blk_cell xy 0
          have cx1 := blk_cell xy 1
          have F := fill7 (.slice aQ m cQ) (.int .i64 n) xy bw.out bw.out.size (by omega)
          obtain ⟨bF, xF, kF⟩ := F
          have BF := Lib.hid bF
          have XF := Lib.hid xF
          have TF := Lib.hid (pY.out.keep kF (by omega) (by omega) (by omega))
          have RF := Lib.hid (RY.out.keepS kF (fun i hi h => hi.2 h))
          have hzF := kF.size
          clear xy hY bY bF xF kF
          go_wp2_with fail
          go_roundw
          case rel => exact ⟨k + 1, L', _, _, by go_num, hlt, XF.out, TF.out, RF.out, BF.out, by omega⟩
          case measure => simp [intOf]; omega
      · obtain rfl : k = zs.length := by omega
        have y0 := blk_cell hx 0
        have y1 := blk_cell hx 1
        clear hx
        go_wp2_with fail
        go_loopw [11] (fun i wr => ∃ j : Nat, i = .int .i64 j ∧ j ≤ 3 ∧ TR wr g gl gn m n L ∧ RV (fun i => w2.heap.size ≤ i ∧ i ≠ w3.heap.size) wr (.agg #[.slice aL m cL, .int .i64 n]) m n L ∧ wr.heap[w3.heap.size]? = some (.cells #[.slice aL m cL, .int .i64 n] 29 (0, 0)) ∧ Below w.heap.size w wr) (fun i _ => 3 - (intOf i).toNat)
        case atStart => exact ⟨0, rfl, by omega, T.out, HR.out, HX.out, BR.out⟩
        case round =>
          obtain ⟨j, rfl, hj, tj, rj, xj, bj⟩ := hrel
          have TJ := Lib.hid tj
          have RJ := Lib.hid rj
          have XJ := Lib.hid xj
          have BJ := Lib.hid bj
          clear y0 y1 tj rj xj bj
          by_cases hj3 : j < 3
          · have hjm : j < m := by have := HM.out; omega
            have hlj : (L j).length ≤ 5000 := TJ.out.wf.len j hjm
            obtain ⟨f, hf⟩ : ∃ f, f = firstT m L (j : Int) := ⟨_, rfl⟩
            have HF : Hid (f = hdq ((L j).drop 0) (-1)) := Lib.hid (by rw [hf]; unfold firstT; rw [if_neg (by omega), Int.toNat_natCast, List.drop_zero])
            have HF0 := Lib.hid hf
            clear hf
            go_wp2_with fail
            refine (tr_first _ g gl gn m n L TJ.out (j : Int)).mono ?_
            rw [← HF0.out]
            rintro e w5 ⟨rfl, rfl⟩
            go_wp2_with fail
            go_loopw [12, 13] (fun av kk wr => ∃ (q : Nat) (u : Int), av = .int .i64 u ∧ kk = .int .i64 q ∧ q ≤ (L j).length ∧ Hid (u = hdq ((L j).drop q) (-1)) ∧ TR wr g gl gn m n L ∧ RV (fun i => w2.heap.size ≤ i ∧ i ≠ w3.heap.size) wr (.agg #[.slice aL m cL, .int .i64 n]) m n L ∧ wr.heap[w3.heap.size]? = some (.cells #[.slice aL m cL, .int .i64 n] 29 (0, 0)) ∧ Below w.heap.size w wr) (fun _ kk _ => (L j).length - (intOf kk).toNat)
            case atStart => exact ⟨0, _, rfl, rfl, by omega, HF, TJ.out, RJ.out, XJ.out, BJ.out⟩
            case round =>
              obtain ⟨q, u, rfl, rfl, hq, hu, tq, rq, xq, bq⟩ := hrel
              have TQ := Lib.hid tq
              have RQ := Lib.hid rq
              have XQ := Lib.hid xq
              have BQ := Lib.hid bq
              have y0 := blk_cell xq 0
              have y1 := blk_cell xq 1
              obtain ⟨b, off, ai, ci, rfl, hv, hcc, hel⟩ := rq.row hjm
              have z0 := hel wr (Below.refl _ _)
              clear tq rq xq bq hel
              by_cases hql : q < (L j).length
              · obtain ⟨y, hy, hhd, ho⟩ := TQ.out.step hjm hql
                obtain rfl : u = (y : Int) := hu.out.trans hhd
                obtain ⟨b2, off2, rfl, _, _, hel2⟩ := hv.elemS (ilist_get hy)
                have z1 := hel2 wr (Below.refl _ _)
                have HO := Lib.hid ho
                clear hv hel2 hy hhd ho hu
                go_wp2_with fail
                refine (tr_next _ g gl gn m n L TQ.out (y : Int) j _ HO.out).mono ?_
                rintro e w6 ⟨rfl, rfl⟩
                go_wp2_with fail
                go_roundw
                case rel => exact ⟨q + 1, _, rfl, by go_num, hql, Lib.hid rfl, TQ.out, RQ.out, XQ.out, BQ.out⟩
                case measure => simp [intOf]; omega
              · obtain rfl : q = (L j).length := by omega
                obtain rfl : u = -1 := hu.out.trans (by rw [List.drop_length]; rfl)
                clear hv hu
                go_wp2_with fail
                go_roundw
                case rel => exact ⟨j + 1, by go_num, by omega, TQ.out, RQ.out, XQ.out, BQ.out⟩
                case measure => simp [intOf]; omega
          · obtain rfl : j = 3 := by omega
            go_wp2_with fail
            go_ret
            exact ⟨rfl, BJ.out⟩
  · have h31 : (30 : Int) < zs.length := by omega
    clear h30 hz
    go_enter Try.func5, Try.ntmps5
    go_wp2_with fail
    refine (awake_ok w).mono ?_
    rintro e w1 ⟨rfl, b1⟩
    have B1 := Lib.hid b1
    clear b1
    go_wp2_with fail
    go_ret
    exact ⟨rfl, B1.out⟩
end Go.Proofs.Ythjbggdcninckaa
