/- The walk through RingBack. -/
import Derived.Test.YthjbggdcninckaaActs7
namespace Go.Proofs.Ythjbggdcninckaa
open Go.RowKit
set_option linter.unusedVariables false
attribute [local go_sem] Oper.semAt_some

theorem updL_back (L : Nat → List Nat) (p : Nat) (l : List Nat) : updL (updL L p l) p (L p) = L := by
  funext j
  by_cases e : j = p
  · rw [e, updL_same]
  · rw [updL_other e, updL_other e]
theorem DR.back {m n : Nat} {L : Nat → List Nat} {y p : Nat} {er : Int} {L' : Nat → List Nat} (h : DR m n (updL L p (y :: L p)) (y : Int) er L') (hp : p < m) (hy : y < n) (hin : inB m L y = false) : er = 0 ∧ L = L' := by
  cases h with
  | arg g => exact absurd g (by omega)
  | none y' e _ hn =>
    obtain rfl : y = y' := by omega
    exact absurd (by rw [updL_same]; exact List.mem_cons_self) (inB_no.1 hn p hp)
  | ok y' i a b e _ hi hL hna hno =>
    obtain rfl : y = y' := by omega
    have hip : i = p := by
      by_cases e : p = i
      · exact e.symm
      · exact absurd (by rw [updL_same]; exact List.mem_cons_self) (hno p hp e)
    subst hip
    rw [updL_same] at hL
    cases a with
    | nil =>
      rw [List.nil_append] at hL ⊢
      obtain ⟨_, hb⟩ := List.cons.inj hL
      rw [← hb]
      exact ⟨rfl, (updL_back L i _).symm⟩
    | cons c a =>
      rw [List.cons_append] at hL
      obtain ⟨hc, _⟩ := List.cons.inj hL
      exact absurd (by rw [hc]; exact List.mem_cons_self) hna
theorem DR.none_det {m n : Nat} {L : Nat → List Nat} {y : Nat} {er : Int} {L' : Nat → List Nat} (h : DR m n L (y : Int) er L') (hy : y < n) (hin : inB m L y = false) : er = 9 ∧ L = L' := by
  cases h with
  | arg g => exact absurd g (by omega)
  | none y' e _ hn => exact ⟨rfl, rfl⟩
  | ok y' i a b e _ hi hL hna hno =>
    obtain rfl : y = y' := by omega
    exact absurd (by rw [hL]; simp) (inB_no.1 hin i hi)
set_option maxRecDepth 100000 in
set_option maxHeartbeats 4000000 in
theorem backLaw_any (w : World) (A : Option Addr) (c : Nat) (zs : List Act) (a1 a2 : Int) (hb1 : 0 ≤ a1 ∧ a1 ≤ 255) (hb2 : 0 ≤ a2 ∧ a2 ≤ 255) (hz : ReadA w A zs) (hlm : zs.length ≤ 9223372036854775807) :
    Calls Try.prog 6 #[.slice A zs.length c, .int .u8 a1, .int .u8 a2] w fun e w' => e = .returned (.bool true) ∧ Below w.heap.size w w' := by
  by_cases h30 : zs.length ≤ 30
  · obtain ⟨m, hm⟩ : ∃ m : Nat, m = 3 := ⟨_, rfl⟩
    obtain ⟨n, hn⟩ : ∃ n : Nat, n = 8 := ⟨_, rfl⟩
    have HM := Lib.hid hm
    have HN := Lib.hid hn
    have hm64 : m ≤ 64 := by omega
    have hn4 : n ≤ 4096 := by omega
    have Hz := Lib.hid hz
    clear hm hn hz
    go_enter Try.func6, Try.ntmps6
    go_wp2_with fail
    refine (awake_ok w).mono ?_
    rintro e w1 ⟨rfl, b1⟩
    have B1 := Lib.hid b1
    clear b1
    go_wp2_with fail
    refine (tr_new83 w1 m n HM.out HN.out).mono ?_
    rintro e w2 ⟨g, gl, gn, rfl, hg, hgl, hgn, t, b⟩
    have hz1 := B1.out.size
    have T2 := Lib.hid t
    have hlt2 := t.lt
    have B2 := Lib.hid (B1.out.trans (b.mono B1.out.size))
    clear t b
    go_wp2_with fail
    refine (rnew_any83 w2 m n HM.out HN.out).mono ?_
    rintro e w3 ⟨v, rfl, r, b3⟩
    obtain ⟨aL, cL, rfl, k1⟩ := r.val
    have hz3 := b3.size
    have bX : Below w3.heap.size w3 (w3.alloc (.cells #[.slice aL m cL, .int .i64 n] 29)) := (Below.refl w3.heap.size w3).alloc (Nat.le_refl _) _
    have T3 := Lib.hid ((T2.out.below b3).below bX)
    have R3 := Lib.hid ((r.ltS.mono (B' := fun i => w2.heap.size ≤ i ∧ i ≠ w3.heap.size) (fun i hi => by have := hi.2; have := hi.1; omega)).keep bX)
    have X3 := Lib.hid (blk_new w3 (.cells #[.slice aL m cL, .int .i64 n] 29))
    have B3 := Lib.hid ((B2.out.trans (b3.mono B2.out.size)).alloc (Nat.le_trans B2.out.size hz3) (.cells #[.slice aL m cL, .int .i64 n] 29))
    clear k1 r b3 bX
    go_wp2_with fail
    go_loopw [12] (fun i wr => ∃ (k : Nat) (L : Nat → List Nat) (aL : Option Addr) (cL : Nat), i = .int .i64 k ∧ k ≤ zs.length ∧ wr.heap[w3.heap.size]? = some (.cells #[.slice aL m cL, .int .i64 n] 29 (0, 0)) ∧ TR wr g gl gn m n L ∧ RV (fun i => w2.heap.size ≤ i ∧ i ≠ w3.heap.size) wr (.agg #[.slice aL m cL, .int .i64 n]) m n L ∧ Below w.heap.size w wr ∧ w3.heap.size < wr.heap.size) (fun i _ => zs.length - (intOf i).toNat)
    case atStart => exact ⟨0, _, _, _, rfl, Nat.zero_le _, X3.out, T3.out, R3.out, B3.out, by simp⟩
    case round =>
      obtain ⟨k, L, aL, cL, rfl, hk, hx, ht, hr, br, hzr⟩ := hrel
      have T := Lib.hid ht
      have HR := Lib.hid hr
      have HX := Lib.hid hx
      have BR := Lib.hid br
      clear ht hr br
      by_cases hlt : k < zs.length
      · have E := Hz.out.elem hlt
        obtain ⟨b, off, rfl, hel⟩ := E
        obtain ⟨act, hact⟩ : ∃ act, act = zs.getD k act0 := ⟨_, rfl⟩
        rw [← hact] at hel
        have Ha := Lib.hid hel
        have t := Ha.out wr BR.out
        obtain ⟨t0, t1, t2⟩ := t
        clear hact hx hel
        obtain ⟨d, l, x⟩ := act
        go_wp2_with fail
        refine (do_any wr g gl gn m n L T.out d l x).mono ?_
        rintro e w4 ⟨er, L', rfl, hp, t4, k4⟩
        have Ht := Lib.hid hp
        have T4 := Lib.hid t4
        have hsz4 := k4.size
        have X4 := Lib.hid (k4.blk HX.out (fun h => by omega))
        have R4 := Lib.hid (HR.out.keepS k4 (fun i hi h => by omega))
        have WFL := Lib.hid T.out.wf
        have B4 := Lib.hid (below_keep BR.out k4 BR.out.size (fun i hi => by omega))
        have TT := Lib.hid (Ha.out w4 B4.out)
        clear hp t4 k4 t0 t1 t2
        go_wp2_with fail
        have t0 := TT.out.1
        have t1 := TT.out.2.1
        have t2 := TT.out.2.2
        have y0 := blk_cell X4.out 0
        have y1 := blk_cell X4.out 1
        have HELD := Lib.hid (fun W (k : Below w4.heap.size w4 W) => held7 X4.out TT.out k)
        go_region_held3 (fun W => Below w4.heap.size w4 W ∧ W.cell? ⟨w3.heap.size, 0, none⟩ = some (.slice aL m cL) ∧ W.cell? ⟨w3.heap.size, 1, none⟩ = some (.int .i64 n) ∧ W.cell? ⟨b, off + k * 3, none⟩ = some (.bool d) ∧ W.cell? ⟨b, off + k * 3 + 1, none⟩ = some (.int .i64 l) ∧ W.cell? ⟨b, off + k * 3 + 2, none⟩ = some (.int .i64 x))
          (first
            | exact HELD.out _ (Below.refl _ _)
            | exact HELD.out _ (below_drew (Below.refl _ _))
            | exact HELD.out _ (below_drew ((Below.refl _ _).alloc (Nat.le_refl _) _))
            | exact HELD.out _ ((Below.refl _ _).alloc (Nat.le_refl _) _)
            | exact HELD.out _ b5'
            | exact HELD.out _ (b5'.alloc b5'.size _)
            | exact HELD.out _ (below1 (below1 b5' (Nat.le_refl _) b5'.size 0 _) (Nat.le_refl _) (by simp; exact b5'.size) 1 _))
          (first
            | (go_at_call 15; refine (rdo_any (fun i => (w2.heap.size ≤ i ∧ i ≠ w3.heap.size) ∧ i ≠ w4.heap.size) (w4.alloc (.cells #[.slice none 0 0, .int .i64 0] 29)).drew _ m n L ((R4.out.ltS.mono (B' := fun i => (w2.heap.size ≤ i ∧ i ≠ w3.heap.size) ∧ i ≠ w4.heap.size) (fun i hi => ⟨hi.1, by have := hi.2; omega⟩)).keep (below_drew ((Below.refl w4.heap.size w4).alloc (Nat.le_refl _) (.cells #[.slice none 0 0, .int .i64 0] 29)))) (fun i hi => by simp at hi; omega) hm64 WFL.out d l x er L' Ht.out).mono ?_; rintro e w5 ⟨v5, rfl, r5, b5⟩; have R5 := Lib.hid r5; obtain ⟨aQ, cQ, rfl, _⟩ := r5.val; clear r5; have hy := below_blk b5 (blk_drew (blk_new w4 (.cells #[.slice none 0 0, .int .i64 0] 29))) (by simp); have HY := Lib.hid hy; have hy0 := blk_cell hy 0; have hy1 := blk_cell hy 1; have hyf := blk_frozen hy 0; have hyg := blk_frozen hy 1; clear hy; have b5' : Below w4.heap.size w4 w5 := (below_drew ((Below.refl w4.heap.size w4).alloc (Nat.le_refl _) _)).trans (b5.mono (by simp)); clear b5)
            | (go_at_call 15; refine (rdo_any (fun i => w2.heap.size ≤ i ∧ i ≠ w3.heap.size) w4.drew _ m n L (R4.out.keep (below_drew (Below.refl w4.heap.size w4))) (fun i hi => by simp at hi; omega) hm64 WFL.out d l x er L' Ht.out).mono ?_; rintro e w5 ⟨v5, rfl, r5, b5⟩; have R5 := Lib.hid r5; obtain ⟨aQ, cQ, rfl, _⟩ := r5.val; clear r5; have b5' : Below w4.heap.size w4 w5 := (below_drew (Below.refl w4.heap.size w4)).trans (b5.mono (Nat.le_refl _)); clear b5))
        all_goals
          rename_i hH
          first
            | (have bY : Below w4.heap.size w4 (w5.alloc (.cells #[.slice aQ m cQ, .int .i64 n] 29)) := hH.1; have hY := blk_new w5 (.cells #[.slice aQ m cQ, .int .i64 n] 29); have RY := Lib.hid (R5.out.keep ((Below.refl _ _).alloc (Nat.le_refl _) (.cells #[.slice aQ m cQ, .int .i64 n] 29))); have hgy : w4.heap.size ≤ w5.heap.size := b5'.size; clear hH; generalize w5.alloc (.cells #[.slice aQ m cQ, .int .i64 n] 29) = WY at bY hY RY ⊢; generalize w5.heap.size = gy at hY hgy ⊢)
            | (have F := fill7 (.slice aQ m cQ) (.int .i64 n) HY.out b5' b5'.size (Nat.le_refl _); obtain ⟨bY, hY, kY⟩ := F; have RY := Lib.hid ((R5.out.keepS kY (fun i hi h => hi.2 h)).mono (B' := fun i => w2.heap.size ≤ i ∧ i ≠ w3.heap.size) (fun i hi => hi.1)); clear hH kY; generalize ((w5.setCell ⟨w4.heap.size, 0, none⟩ (.slice aQ m cQ)).setCell ⟨w4.heap.size, 1, none⟩ (.int .i64 n)) = WY at bY hY RY ⊢; generalize hgz : w4.heap.size = gy at hY ⊢; have hgy : w4.heap.size ≤ gy := Nat.le_of_eq hgz; clear hgz)
          have xy := below_blk bY X4.out (by omega)
          have pY := Lib.hid (T4.out.below bY)
          have bw := Lib.hid (B4.out.trans (bY.mono B4.out.size))
          have hzY := bY.size
          have cy0 := blk_cell hY 0
          have cy1 := blk_cell hY 1
          have cf0 := blk_frozen xy 0
          have cf1 := blk_frozen xy 1
          have cx0 := blk_cell xy 0
          have cx1 := blk_cell xy 1
          have F := fill7 (.slice aQ m cQ) (.int .i64 n) xy bw.out bw.out.size (by omega)
          obtain ⟨bF, xF, kF⟩ := F
          have BF := Lib.hid bF
          have XF := Lib.hid xF
          have TF := Lib.hid (pY.out.keep kF (by omega) (by omega) (by omega))
          have RF := Lib.hid (RY.out.keepS kF (fun i hi h => hi.2 h))
          have hzF := kF.size
          clear xy hY bY bF xF kF
          go_wp2_with fail
          go_roundw
          case rel => exact ⟨k + 1, L', _, _, by go_num, hlt, XF.out, TF.out, RF.out, BF.out, by omega⟩
          case measure => simp [intOf]; omega
      · obtain rfl : k = zs.length := by omega
        have y0 := blk_cell hx 0
        have y1 := blk_cell hx 1
        clear hx
        have i1 : IntKind.i64.wrap a1 = a1 := IntWalk.i64_in _ (by omega)
        have i2 : IntKind.i64.wrap a2 = a2 := IntWalk.i64_in _ (by omega)
        obtain ⟨p, hp⟩ : ∃ p : Nat, (p : Int) = a1 % 3 := ⟨(a1 % 3).toNat, by omega⟩
        obtain ⟨y, hy⟩ : ∃ y : Nat, (y : Int) = a2 % 8 := ⟨(a2 % 8).toNat, by omega⟩
        have hpm : p < m := by have := HM.out; omega
        have hyn : y < n := by have := HN.out; omega
        have i3 : a1.tmod 3 = (p : Int) := by rw [Int.tmod_eq_emod_of_nonneg hb1.1]; omega
        have i4 : a2.tmod 8 = (y : Int) := by rw [Int.tmod_eq_emod_of_nonneg hb2.1]; omega
        have i5 : IntKind.i64.wrap (p : Int) = p := IntWalk.i64_in _ (by omega)
        have i6 : IntKind.i64.wrap (y : Int) = y := IntWalk.i64_in _ (by omega)
        clear hp hy
        cases hin : inB m L y with
        | true =>
          have HIN := Lib.hid hin
          clear hin
          go_wp2_with fail
          refine (push_in _ g gl gn m n L T.out (p : Int) (y : Int) p y rfl rfl hpm hyn HIN.out).mono ?_
          rintro e w4 ⟨rfl, t4, k4⟩
          have T4 := Lib.hid t4
          have R4 := Lib.hid (HR.out.keepS k4 (fun i hi h => by omega))
          have X4 := Lib.hid (k4.blk HX.out (fun h => by omega))
          have B4 := Lib.hid (below_keep BR.out k4 BR.out.size (fun i hi => by omega))
          clear t4 k4 y0 y1
          have y0 := blk_cell X4.out 0
          have y1 := blk_cell X4.out 1
          have hOO : ∃ (i : Nat) (q : Int), OT m n L y i q := by
            obtain ⟨i, hi, hiy⟩ := inB_iff.1 HIN.out
            obtain ⟨a, b, hL, hna⟩ := mem_split (L i) hiy
            exact ⟨i, _, .some y i a b rfl hyn hi hL hna (fun j hj hne hm => hne (T.out.wf.apart j i y hj hi hm hiy))⟩
          obtain ⟨i, q, ho⟩ := hOO
          have HO := Lib.hid ho
          have h0i : (0 : Int) ≤ (i : Int) := by omega
          clear ho
          go_wp2_with fail
          refine (rof_any _ _ _ m n L R4.out T4.out.wf (y : Int) i q HO.out).mono ?_
          rintro e w5 ⟨rfl, b5⟩
          have B5 := Lib.hid (B4.out.trans (b5.mono B4.out.size))
          have T5 := Lib.hid (T4.out.below b5)
          have R5 := Lib.hid (R4.out.keep b5)
          have X5 := Lib.hid (below_blk b5 X4.out (blk_lt X4.out))
          clear b5 y0 y1
          have y0 := blk_cell X5.out 0
          have y1 := blk_cell X5.out 1
          go_wp2_with fail
          refine (same_any _ _ _ g gl gn m n L T5.out R5.out hn4 hm64).mono ?_
          rintro e w6 ⟨rfl, b6⟩
          have B6 := Lib.hid (B5.out.trans (b6.mono B5.out.size))
          have T6 := Lib.hid (T5.out.below b6)
          have R6 := Lib.hid (R5.out.keep b6)
          have X6 := Lib.hid (below_blk b6 X5.out (blk_lt X5.out))
          clear b6 y0 y1
          have y0 := blk_cell X6.out 0
          have y1 := blk_cell X6.out 1
          go_wp2_with fail
          go_ret
          exact ⟨rfl, B6.out⟩
        | false =>
          have HIN := Lib.hid hin
          clear hin
          go_wp2_with fail
          refine (push_free _ g gl gn m n L T.out (p : Int) (y : Int) p y rfl rfl hpm hyn HIN.out).mono ?_
          rintro e w4 ⟨rfl, t4, k4⟩
          have T4 := Lib.hid t4
          have R4 := Lib.hid (HR.out.keepS k4 (fun i hi h => by omega))
          have X4 := Lib.hid (k4.blk HX.out (fun h => by omega))
          have B4 := Lib.hid (below_keep BR.out k4 BR.out.size (fun i hi => by omega))
          clear t4 k4 y0 y1
          have y0 := blk_cell X4.out 0
          have y1 := blk_cell X4.out 1
          have hfi : firstT m (updL L p (y :: L p)) (p : Int) = y := by
            unfold firstT
            rw [if_neg (by omega), Int.toNat_natCast, updL_same]; rfl
          have HFI := Lib.hid hfi
          clear hfi
          go_wp2_with fail
          refine (tr_first _ g gl gn m n _ T4.out (p : Int)).mono ?_
          rw [HFI.out]
          rintro e w5 ⟨rfl, rfl⟩
          go_wp2_with fail
          refine (tr_drop _ g gl gn m n _ T4.out (y : Int)).mono ?_
          rintro e w5 ⟨er, L', rfl, hd, t5, k5⟩
          obtain ⟨rfl, rfl⟩ := hd.back hpm hyn HIN.out
          clear hd
          have T5 := Lib.hid t5
          have R5 := Lib.hid (R4.out.keepS k5 (fun i hi h => by omega))
          have X5 := Lib.hid (k5.blk X4.out (fun h => by omega))
          have B5 := Lib.hid (below_keep B4.out k5 B4.out.size (fun i hi => by omega))
          clear t5 k5 y0 y1
          have y0 := blk_cell X5.out 0
          have y1 := blk_cell X5.out 1
          go_wp2_with fail
          refine (same_any _ _ _ g gl gn m n _ T5.out R5.out hn4 hm64).mono ?_
          rintro e w6 ⟨rfl, b6⟩
          have B6 := Lib.hid (B5.out.trans (b6.mono B5.out.size))
          have T6 := Lib.hid (T5.out.below b6)
          have R6 := Lib.hid (R5.out.keep b6)
          have X6 := Lib.hid (below_blk b6 X5.out (blk_lt X5.out))
          clear b6 y0 y1
          have y0 := blk_cell X6.out 0
          have y1 := blk_cell X6.out 1
          go_wp2_with fail
          refine (tr_drop _ g gl gn m n _ T6.out (y : Int)).mono ?_
          rintro e w7 ⟨er, L2, rfl, hd, t7, k7⟩
          obtain ⟨rfl, rfl⟩ := hd.none_det hyn HIN.out
          clear hd
          have T7 := Lib.hid t7
          have R7 := Lib.hid (R6.out.keepS k7 (fun i hi h => by omega))
          have X7 := Lib.hid (k7.blk X6.out (fun h => by omega))
          have B7 := Lib.hid (below_keep B6.out k7 B6.out.size (fun i hi => by omega))
          clear t7 k7 y0 y1
          have y0 := blk_cell X7.out 0
          have y1 := blk_cell X7.out 1
          go_wp2_with fail
          go_ret
          exact ⟨rfl, B7.out⟩
  · have h31 : (30 : Int) < zs.length := by omega
    clear h30 hz
    go_enter Try.func6, Try.ntmps6
    go_wp2_with fail
    refine (awake_ok w).mono ?_
    rintro e w1 ⟨rfl, b1⟩
    have B1 := Lib.hid b1
    clear b1
    go_wp2_with fail
    go_ret
    exact ⟨rfl, B1.out⟩
end Go.Proofs.Ythjbggdcninckaa
