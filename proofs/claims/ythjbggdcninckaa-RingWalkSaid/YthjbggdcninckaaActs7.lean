/- The walk through RingActs; what the laws of almerylaw07 share. -/
import Derived.Test.YthjbggdcninckaaRRing7
namespace Go.Proofs.Ythjbggdcninckaa
open Go.RowKit
set_option linter.unusedVariables false
attribute [local go_sem] Oper.semAt_some

abbrev Act := Bool × Int × Int
abbrev act0 : Act := (false, 0, 0)
/-- the acts that came in -/
def ReadA (w : World) (a : Option Addr) (zs : List Act) : Prop := zs.length = 0 ∨ ∃ b off, a = some ⟨b, off, none⟩ ∧ ∀ i, i < zs.length → w.cell? ⟨b, off + i * 3, none⟩ = some (.bool (zs.getD i act0).1) ∧ w.cell? ⟨b, off + i * 3 + 1, none⟩ = some (.int .i64 (zs.getD i act0).2.1) ∧ w.cell? ⟨b, off + i * 3 + 2, none⟩ = some (.int .i64 (zs.getD i act0).2.2)
theorem ReadA.elem {w : World} {a : Option Addr} {zs : List Act} (hz : ReadA w a zs) {k : Nat} (hk : k < zs.length) :
    ∃ b off, a = some ⟨b, off, none⟩ ∧ ∀ wr, Below w.heap.size w wr → wr.cell? ⟨b, off + k * 3, none⟩ = some (.bool (zs.getD k act0).1) ∧ wr.cell? ⟨b, off + k * 3 + 1, none⟩ = some (.int .i64 (zs.getD k act0).2.1) ∧ wr.cell? ⟨b, off + k * 3 + 2, none⟩ = some (.int .i64 (zs.getD k act0).2.2) := by
  obtain ⟨b, off, ha, h⟩ := hz.resolve_left (by omega)
  obtain ⟨h1, h2, h3⟩ := h k hk
  exact ⟨b, off, ha, fun wr br => ⟨(br.cell (p := ⟨b, off + k * 3, none⟩) (World.block_lt_of_cell? w _ h1)).trans h1, (br.cell (p := ⟨b, off + k * 3 + 1, none⟩) (World.block_lt_of_cell? w _ h2)).trans h2, (br.cell (p := ⟨b, off + k * 3 + 2, none⟩) (World.block_lt_of_cell? w _ h3)).trans h3⟩⟩
theorem readA_of {w : World} {a : Option Addr} {zs : List Act} (h : zs.length = 0 ∨ ∃ b off, a = some ⟨b, off, none⟩ ∧ ∀ i, i < zs.length → ∃ cs : List Value, cs.length = 3 ∧ (∀ j, j < 3 → w.cell? ⟨b, off + i * 3 + j, none⟩ = cs[j]?) ∧ cs[0]? = some (.bool (zs.getD i act0).1) ∧
    cs[1]? = some (.int .i64 (zs.getD i act0).2.1) ∧ (-9223372036854775808 ≤ (zs.getD i act0).2.1 ∧ (zs.getD i act0).2.1 ≤ 9223372036854775807) ∧ cs[2]? = some (.int .i64 (zs.getD i act0).2.2) ∧ (-9223372036854775808 ≤ (zs.getD i act0).2.2 ∧ (zs.getD i act0).2.2 ≤ 9223372036854775807)) : ReadA w a zs := by
  rcases h with h | ⟨b, off, ha, h⟩
  · exact .inl h
  · refine .inr ⟨b, off, ha, fun i hi => ?_⟩
    obtain ⟨cs, _, hc, h0, h1, h3, h2, h4⟩ := h i hi
    exact ⟨(hc 0 (by omega)).trans h0, (hc 1 (by omega)).trans h1, (hc 2 (by omega)).trans h2⟩
theorem tr_new83 (w : World) (m n : Nat) (hm : m = 3) (hn : n = 8) : Calls Try.prog 9 #[.int .i64 8, .int .i64 3] w fun e w' => ∃ g gl gn, e = .returned (.tuple #[ptr g, .int .i64 0]) ∧ w.heap.size ≤ g ∧ w.heap.size ≤ gl ∧ w.heap.size ≤ gn ∧ TR w' g gl gn m n (fun _ => []) ∧ Below w.heap.size w w' := by
  subst hm; subst hn
  exact tr_new w 3 8 (by omega) (by omega) (by omega) (by omega)
theorem rnew_any83 (w : World) (m n : Nat) (hm : m = 3) (hn : n = 8) : Calls Try.prog 10 #[.int .i64 8, .int .i64 3] w fun e w' => ∃ v, e = .returned (.tuple #[v, .int .i64 0]) ∧ RV (fun i => w.heap.size < i) w' v m n (fun _ => []) ∧ Below w.heap.size w w' := by
  subst hm; subst hn
  exact rnew_any w 3 8 (by omega) (by omega) (by omega) (by omega)
theorem held7 {w w' : World} {h b o : Nat} {t : TypeId} {v0 v1 : Value} {x y z : Value} (hb : w.heap[h]? = some (.cells #[v0, v1] t (0, 0))) (hx : w.cell? ⟨b, o, none⟩ = some x ∧ w.cell? ⟨b, o + 1, none⟩ = some y ∧ w.cell? ⟨b, o + 2, none⟩ = some z) (k : Below w.heap.size w w') :
    Below w.heap.size w w' ∧ w'.cell? ⟨h, 0, none⟩ = some v0 ∧ w'.cell? ⟨h, 1, none⟩ = some v1 ∧ w'.cell? ⟨b, o, none⟩ = some x ∧ w'.cell? ⟨b, o + 1, none⟩ = some y ∧ w'.cell? ⟨b, o + 2, none⟩ = some z :=
  ⟨k, (blk_cell (below_blk k hb (blk_lt hb)) 0).trans rfl, (blk_cell (below_blk k hb (blk_lt hb)) 1).trans rfl, (k.cell (p := ⟨b, o, none⟩) (World.block_lt_of_cell? w _ hx.1)).trans hx.1, (k.cell (p := ⟨b, o + 1, none⟩) (World.block_lt_of_cell? w _ hx.2.1)).trans hx.2.1, (k.cell (p := ⟨b, o + 2, none⟩) (World.block_lt_of_cell? w _ hx.2.2)).trans hx.2.2⟩
theorem fill7 {w0 w : World} {B : Nat} {x : Nat} {v0 v1 : Value} {t : TypeId} (u0 u1 : Value) (hb : w.heap[x]? = some (.cells #[v0, v1] t (0, 0))) (k : Below B w0 w) (hB : B ≤ w.heap.size) (hx : B ≤ x) :
    Below B w0 ((w.setCell ⟨x, 0, none⟩ u0).setCell ⟨x, 1, none⟩ u1) ∧ ((w.setCell ⟨x, 0, none⟩ u0).setCell ⟨x, 1, none⟩ u1).heap[x]? = some (.cells #[u0, u1] t (0, 0)) ∧ Keep (fun i => i = x) w ((w.setCell ⟨x, 0, none⟩ u0).setCell ⟨x, 1, none⟩ u1) := by
  have K : Keep (fun i => i = x) w ((w.setCell ⟨x, 0, none⟩ u0).setCell ⟨x, 1, none⟩ u1) := ((Keep.refl (fun i => i = x) w).setCell (.inl rfl) _).setCell (.inl rfl) _
  refine ⟨below_keep k K hB (fun i hi => by omega), ?_, K⟩
  have := blk_set (blk_set hb 0 u0) 1 u1
  simpa using this

set_option maxRecDepth 100000 in
set_option maxHeartbeats 4000000 in
theorem actsLaw_any (w : World) (A : Option Addr) (c : Nat) (zs : List Act) (hz : ReadA w A zs) (hlm : zs.length ≤ 9223372036854775807) :
    Calls Try.prog 4 #[.slice A zs.length c] w fun e w' => e = .returned (.bool true) ∧ Below w.heap.size w w' := by
  by_cases h30 : zs.length ≤ 30
  · obtain ⟨m, hm⟩ : ∃ m : Nat, m = 3 := ⟨_, rfl⟩
    obtain ⟨n, hn⟩ : ∃ n : Nat, n = 8 := ⟨_, rfl⟩
    have HM := Lib.hid hm
    have HN := Lib.hid hn
    have hm64 : m ≤ 64 := by omega
    have hn4 : n ≤ 4096 := by omega
    have Hz := Lib.hid hz
    clear hm hn hz
    go_enter Try.func4, Try.ntmps4
    go_wp2_with fail
    refine (awake_ok w).mono ?_
    rintro e w1 ⟨rfl, b1⟩
    have B1 := Lib.hid b1
    clear b1
    go_wp2_with fail
    refine (tr_new83 w1 m n HM.out HN.out).mono ?_
    rintro e w2 ⟨g, gl, gn, rfl, hg, hgl, hgn, t, b⟩
    have hz1 := B1.out.size
    have T2 := Lib.hid t
    have hlt2 := t.lt
    have B2 := Lib.hid (B1.out.trans (b.mono B1.out.size))
    clear t b
    go_wp2_with fail
    refine (rnew_any83 w2 m n HM.out HN.out).mono ?_
    rintro e w3 ⟨v, rfl, r, b3⟩
    obtain ⟨aL, cL, rfl, k1⟩ := r.val
    have hz3 := b3.size
    have bX : Below w3.heap.size w3 (w3.alloc (.cells #[.slice aL m cL, .int .i64 n] 29)) := (Below.refl w3.heap.size w3).alloc (Nat.le_refl _) _
    have T3 := Lib.hid ((T2.out.below b3).below bX)
    have R3 := Lib.hid ((r.ltS.mono (B' := fun i => w2.heap.size ≤ i ∧ i ≠ w3.heap.size) (fun i hi => by have := hi.2; have := hi.1; omega)).keep bX)
    have X3 := Lib.hid (blk_new w3 (.cells #[.slice aL m cL, .int .i64 n] 29))
    have B3 := Lib.hid ((B2.out.trans (b3.mono B2.out.size)).alloc (Nat.le_trans B2.out.size hz3) (.cells #[.slice aL m cL, .int .i64 n] 29))
    clear k1 r b3 bX
    go_wp2_with fail
    go_loopw [8] (fun i wr => ∃ (k : Nat) (L : Nat → List Nat) (aL : Option Addr) (cL : Nat), i = .int .i64 k ∧ k ≤ zs.length ∧ wr.heap[w3.heap.size]? = some (.cells #[.slice aL m cL, .int .i64 n] 29 (0, 0)) ∧ TR wr g gl gn m n L ∧ RV (fun i => w2.heap.size ≤ i ∧ i ≠ w3.heap.size) wr (.agg #[.slice aL m cL, .int .i64 n]) m n L ∧ Below w.heap.size w wr ∧ w3.heap.size < wr.heap.size) (fun i _ => zs.length - (intOf i).toNat)
    case atStart => exact ⟨0, _, _, _, rfl, Nat.zero_le _, X3.out, T3.out, R3.out, B3.out, by simp⟩
    case round =>
      obtain ⟨k, L, aL, cL, rfl, hk, hx, ht, hr, br, hzr⟩ := hrel
      have T := Lib.hid ht
      have HR := Lib.hid hr
      have HX := Lib.hid hx
      have BR := Lib.hid br
      clear ht hr br
      by_cases hlt : k < zs.length
      · have E := Hz.out.elem hlt
        obtain ⟨b, off, rfl, hel⟩ := E
        obtain ⟨act, hact⟩ : ∃ act, act = zs.getD k act0 := ⟨_, rfl⟩
        rw [← hact] at hel
        have Ha := Lib.hid hel
        have t := Ha.out wr BR.out
        obtain ⟨t0, t1, t2⟩ := t
        clear hact hx hel
        obtain ⟨d, l, x⟩ := act
        go_wp2_with fail
        refine (do_any wr g gl gn m n L T.out d l x).mono ?_
        rintro e w4 ⟨er, L', rfl, hp, t4, k4⟩
        have Ht := Lib.hid hp
        have T4 := Lib.hid t4
        have hsz4 := k4.size
        have X4 := Lib.hid (k4.blk HX.out (fun h => by omega))
        have R4 := Lib.hid (HR.out.keepS k4 (fun i hi h => by omega))
        have WFL := Lib.hid T.out.wf
        have B4 := Lib.hid (below_keep BR.out k4 BR.out.size (fun i hi => by omega))
        have TT := Lib.hid (Ha.out w4 B4.out)
        clear hp t4 k4 t0 t1 t2
        go_wp2_with fail
        have t0 := TT.out.1
        have t1 := TT.out.2.1
        have t2 := TT.out.2.2
        have y0 := blk_cell X4.out 0
        have y1 := blk_cell X4.out 1
        have HELD := Lib.hid (fun W (k : Below w4.heap.size w4 W) => held7 X4.out TT.out k)
        go_region_held3 (fun W => Below w4.heap.size w4 W ∧ W.cell? ⟨w3.heap.size, 0, none⟩ = some (.slice aL m cL) ∧ W.cell? ⟨w3.heap.size, 1, none⟩ = some (.int .i64 n) ∧ W.cell? ⟨b, off + k * 3, none⟩ = some (.bool d) ∧ W.cell? ⟨b, off + k * 3 + 1, none⟩ = some (.int .i64 l) ∧ W.cell? ⟨b, off + k * 3 + 2, none⟩ = some (.int .i64 x))
          (first
            | exact HELD.out _ (Below.refl _ _)
            | exact HELD.out _ (below_drew (Below.refl _ _))
            | exact HELD.out _ (below_drew ((Below.refl _ _).alloc (Nat.le_refl _) _))
            | exact HELD.out _ ((Below.refl _ _).alloc (Nat.le_refl _) _)
            | exact HELD.out _ b5'
            | exact HELD.out _ (b5'.alloc b5'.size _)
            | exact HELD.out _ (below1 (below1 b5' (Nat.le_refl _) b5'.size 0 _) (Nat.le_refl _) (by simp; exact b5'.size) 1 _))
          (first
            | (go_at_call 15; refine (rdo_any (fun i => (w2.heap.size ≤ i ∧ i ≠ w3.heap.size) ∧ i ≠ w4.heap.size) (w4.alloc (.cells #[.slice none 0 0, .int .i64 0] 29)).drew _ m n L ((R4.out.ltS.mono (B' := fun i => (w2.heap.size ≤ i ∧ i ≠ w3.heap.size) ∧ i ≠ w4.heap.size) (fun i hi => ⟨hi.1, by have := hi.2; omega⟩)).keep (below_drew ((Below.refl w4.heap.size w4).alloc (Nat.le_refl _) (.cells #[.slice none 0 0, .int .i64 0] 29)))) (fun i hi => by simp at hi; omega) hm64 WFL.out d l x er L' Ht.out).mono ?_; rintro e w5 ⟨v5, rfl, r5, b5⟩; have R5 := Lib.hid r5; obtain ⟨aQ, cQ, rfl, _⟩ := r5.val; clear r5; have hy := below_blk b5 (blk_drew (blk_new w4 (.cells #[.slice none 0 0, .int .i64 0] 29))) (by simp); have HY := Lib.hid hy; have hy0 := blk_cell hy 0; have hy1 := blk_cell hy 1; have hyf := blk_frozen hy 0; have hyg := blk_frozen hy 1; clear hy; have b5' : Below w4.heap.size w4 w5 := (below_drew ((Below.refl w4.heap.size w4).alloc (Nat.le_refl _) _)).trans (b5.mono (by simp)); clear b5)
            | (go_at_call 15; refine (rdo_any (fun i => w2.heap.size ≤ i ∧ i ≠ w3.heap.size) w4.drew _ m n L (R4.out.keep (below_drew (Below.refl w4.heap.size w4))) (fun i hi => by simp at hi; omega) hm64 WFL.out d l x er L' Ht.out).mono ?_; rintro e w5 ⟨v5, rfl, r5, b5⟩; have R5 := Lib.hid r5; obtain ⟨aQ, cQ, rfl, _⟩ := r5.val; clear r5; have b5' : Below w4.heap.size w4 w5 := (below_drew (Below.refl w4.heap.size w4)).trans (b5.mono (Nat.le_refl _)); clear b5))
        all_goals
          rename_i hH
          first
            | (have bY : Below w4.heap.size w4 (w5.alloc (.cells #[.slice aQ m cQ, .int .i64 n] 29)) := hH.1; have hY := blk_new w5 (.cells #[.slice aQ m cQ, .int .i64 n] 29); have RY := Lib.hid (R5.out.keep ((Below.refl _ _).alloc (Nat.le_refl _) (.cells #[.slice aQ m cQ, .int .i64 n] 29))); have hgy : w4.heap.size ≤ w5.heap.size := b5'.size; clear hH; generalize w5.alloc (.cells #[.slice aQ m cQ, .int .i64 n] 29) = WY at bY hY RY ⊢; generalize w5.heap.size = gy at hY hgy ⊢)
            | (have F := fill7 (.slice aQ m cQ) (.int .i64 n) HY.out b5' b5'.size (Nat.le_refl _); obtain ⟨bY, hY, kY⟩ := F; have RY := Lib.hid ((R5.out.keepS kY (fun i hi h => hi.2 h)).mono (B' := fun i => w2.heap.size ≤ i ∧ i ≠ w3.heap.size) (fun i hi => hi.1)); clear hH kY; generalize ((w5.setCell ⟨w4.heap.size, 0, none⟩ (.slice aQ m cQ)).setCell ⟨w4.heap.size, 1, none⟩ (.int .i64 n)) = WY at bY hY RY ⊢; generalize hgz : w4.heap.size = gy at hY ⊢; have hgy : w4.heap.size ≤ gy := Nat.le_of_eq hgz; clear hgz)
          have xy := below_blk bY X4.out (by omega)
          have pY := Lib.hid (T4.out.below bY)
          have bw := Lib.hid (B4.out.trans (bY.mono B4.out.size))
          have hzY := bY.size
          have cy0 := blk_cell hY 0
          have cy1 := blk_cell hY 1
          have cf0 := blk_frozen xy 0
          have cf1 := blk_frozen xy 1
          have cx0 := blk_cell xy 0
          have cx1 := blk_cell xy 1
          have F := fill7 (.slice aQ m cQ) (.int .i64 n) xy bw.out bw.out.size (by omega)
          obtain ⟨bF, xF, kF⟩ := F
          have BF := Lib.hid bF
          have XF := Lib.hid xF
          have TF := Lib.hid (pY.out.keep kF (by omega) (by omega) (by omega))
          have RF := Lib.hid (RY.out.keepS kF (fun i hi h => hi.2 h))
          have hzF := kF.size
          clear xy hY bY bF xF kF
          go_wp2_with fail
          generalize ((WY.setCell ⟨w3.heap.size, 0, none⟩ (.slice aQ m cQ)).setCell ⟨w3.heap.size, 1, none⟩ (.int .i64 n)) = WF at BF XF TF RF hzF ⊢
          clear cy0 cy1 cf0 cf1 cx0 cx1 y0 y1 t0 t1 t2
          refine (same_any _ WF _ g gl gn m n L' TF.out RF.out hn4 hm64).mono ?_
          rintro e w7 ⟨rfl, b7⟩
          have hz7 := b7.size
          have T7 := Lib.hid (TF.out.below b7)
          have R7 := Lib.hid (RF.out.keep b7)
          have X7 := Lib.hid (below_blk b7 XF.out (blk_lt XF.out))
          have B7 := Lib.hid (BF.out.trans (b7.mono BF.out.size))
          clear b7
          go_wp2_with fail
          go_roundw
          case rel => exact ⟨k + 1, L', _, _, by go_num, hlt, X7.out, T7.out, R7.out, B7.out, by omega⟩
          case measure => simp [intOf]; omega
      · obtain rfl : k = zs.length := by omega
        have y0 := blk_cell hx 0
        have y1 := blk_cell hx 1
        clear hx
        go_wp2_with fail
        refine (same_any _ _ _ g gl gn m n L T.out HR.out hn4 hm64).mono ?_
        rintro e w4 ⟨rfl, b4⟩
        have B4 := Lib.hid (BR.out.trans (b4.mono BR.out.size))
        clear b4
        go_wp2_with fail
        go_ret
        exact ⟨rfl, B4.out⟩
  · have h31 : (30 : Int) < zs.length := by omega
    clear h30 hz
    go_enter Try.func4, Try.ntmps4
    go_wp2_with fail
    refine (awake_ok w).mono ?_
    rintro e w1 ⟨rfl, b1⟩
    have B1 := Lib.hid b1
    clear b1
    go_wp2_with fail
    go_ret
    exact ⟨rfl, B1.out⟩
end Go.Proofs.Ythjbggdcninckaa
