/- The contract of the laws' own run: the pool and the reference's side by side. -/
import Derived.Test.YtlajbgopidllbaaStep
namespace Go.Proofs.Ytlajbgopidllbaa
open Go.RowKit
attribute [local go_sem] Oper.semAt_some

/-- the acts that came in -/
def ReadA (w : World) (a : Option Addr) (zs : List (Bool × Int)) : Prop := zs.length = 0 ∨ ∃ b off, a = some ⟨b, off, none⟩ ∧ ∀ i, i < zs.length → w.cell? ⟨b, off + i * 2, none⟩ = some (.bool (zs.getD i (false, 0)).1) ∧ w.cell? ⟨b, off + i * 2 + 1, none⟩ = some (.int .i64 (zs.getD i (false, 0)).2)
theorem ReadA.elem {w wr : World} {a : Option Addr} {zs : List (Bool × Int)} (hz : ReadA w a zs) (br : Below w.heap.size w wr) {k : Nat} (hk : k < zs.length) :
    ∃ b off, a = some ⟨b, off, none⟩ ∧ wr.cell? ⟨b, off + k * 2, none⟩ = some (.bool (zs.getD k (false, 0)).1) ∧ wr.cell? ⟨b, off + k * 2 + 1, none⟩ = some (.int .i64 (zs.getD k (false, 0)).2) := by
  obtain ⟨b, off, ha, h⟩ := hz.resolve_left (by omega)
  obtain ⟨h1, h2⟩ := h k hk
  exact ⟨b, off, ha, (br.cell (p := ⟨b, off + k * 2, none⟩) (World.block_lt_of_cell? w _ h1)).trans h1, (br.cell (p := ⟨b, off + k * 2 + 1, none⟩) (World.block_lt_of_cell? w _ h2)).trans h2⟩

theorem ReadA.elemAll {w : World} {b off : Nat} {zs : List (Bool × Int)} (hz : ReadA w (some ⟨b, off, none⟩) zs) {k : Nat} (hk : k < zs.length) {wr : World} (br : Below w.heap.size w wr) :
    wr.cell? ⟨b, off + k * 2, none⟩ = some (.bool (zs.getD k (false, 0)).1) ∧ wr.cell? ⟨b, off + k * 2 + 1, none⟩ = some (.int .i64 (zs.getD k (false, 0)).2) := by
  obtain ⟨b', off', ha, h1, h2⟩ := hz.elem br hk
  cases ha
  exact ⟨h1, h2⟩

/-- the two pools, in step -/
def Sy (B : Nat) (w : World) (g gp n : Nat) (v : Value) (os : Nat → Int) (fr : List Nat) : Prop := PA w g gp n os fr ∧ RR B w v n os fr

/-- the box of the reference's value turned -/
theorem sy_box {B g gp n h : Nat} {w : World} {v v1 v2 u1 u2 : Value} {os : Nat → Int} {fr : List Nat} {t : TypeId} (hs : Sy B w g gp n v os fr) (hb : w.heap[h]? = some (.cells #[v1, v2] t (0, 0)))
    (h1 : ∀ x : Int, v1 ≠ .int .i64 x) (h2 : ∀ x : Int, v2 ≠ .int .i64 x) (hg : g ≠ h) (hp : gp ≠ h) :
    Sy B ((w.setCell ⟨h, 0, none⟩ u1).setCell ⟨h, 1, none⟩ u2) g gp n v os fr ∧ ((w.setCell ⟨h, 0, none⟩ u1).setCell ⟨h, 1, none⟩ u2).heap[h]? = some (.cells #[u1, u2] t (0, 0)) ∧ Keep (fun i => i = h) w ((w.setCell ⟨h, 0, none⟩ u1).setCell ⟨h, 1, none⟩ u2) := by
  have K : Keep (fun i => i = h) w ((w.setCell ⟨h, 0, none⟩ u1).setCell ⟨h, 1, none⟩ u2) := ((Keep.refl (fun i => i = h) w).setCell (.inl rfl) _).setCell (.inl rfl) _
  refine ⟨⟨hs.1.keep K (by omega) (by omega), hs.2.keep1 K hb h1 h2⟩, ?_, K⟩
  have := blk_set (blk_set hb 0 u1) 1 u2
  simpa using this

theorem below_drew {B : Nat} {w W : World} (h : Below B w W) : Below B w W.drew := ⟨h.os, h.tape, h.output, h.size, h.block⟩
/-- what the region reads, in any world that keeps all blocks -/
theorem held_s {w w' : World} {h b o : Nat} {t : TypeId} {v1 v2 : Value} {x : Value} (hb : w.heap[h]? = some (.cells #[v1, v2] t (0, 0))) (hx : w.cell? ⟨b, o, none⟩ = some x) (k : Below w.heap.size w w') :
    Below w.heap.size w w' ∧ w'.cell? ⟨h, 0, none⟩ = some v1 ∧ w'.cell? ⟨h, 1, none⟩ = some v2 ∧ w'.cell? ⟨b, o, none⟩ = some x :=
  ⟨k, (blk_cell (below_blk k hb (blk_lt hb)) 0).trans rfl, (blk_cell (below_blk k hb (blk_lt hb)) 1).trans rfl, (k.cell (p := ⟨b, o, none⟩) (World.block_lt_of_cell? w _ hx)).trans hx⟩
/-- the new box, filled: what is kept -/
theorem fill_s {B n : Nat} {w w4 : World} {g : Nat} {v v1 v2 u1 u2 : Value} {os : Nat → Int} {fr : List Nat} {t : TypeId} (hw : w.heap.size ≤ g) (hb : w4.heap[g]? = some (.cells #[v1, v2] t (0, 0))) (k : Below w.heap.size w w4) (h1 : ∀ x : Int, v1 ≠ .int .i64 x) (h2 : ∀ x : Int, v2 ≠ .int .i64 x) (r : RR B w4 v n os fr) :
    Below w.heap.size w ((w4.setCell ⟨g, 0, none⟩ u1).setCell ⟨g, 1, none⟩ u2) ∧ RR B ((w4.setCell ⟨g, 0, none⟩ u1).setCell ⟨g, 1, none⟩ u2) v n os fr ∧ ((w4.setCell ⟨g, 0, none⟩ u1).setCell ⟨g, 1, none⟩ u2).heap[g]? = some (.cells #[u1, u2] t (0, 0)) := by
  have K : Keep (fun i => i = g) w4 ((w4.setCell ⟨g, 0, none⟩ u1).setCell ⟨g, 1, none⟩ u2) := ((Keep.refl (fun i => i = g) w4).setCell (.inl rfl) _).setCell (.inl rfl) _
  refine ⟨below_keep k K k.size (fun i hi => by omega), r.keep1 K hb h1 h2, ?_⟩
  have := blk_set (blk_set hb 0 u1) 1 u2
  simpa using this
theorem below1 {B : Nat} {w W : World} (h : Below B w W) {g : Nat} (hg : B ≤ g) (hB : B ≤ W.heap.size) (j : Nat) (u : Value) : Below B w (W.setCell ⟨g, j, none⟩ u) :=
  below_keep h ((Keep.refl (fun i => i = g) W).setCell (.inl rfl) u) hB (fun i hi => by omega)

set_option maxRecDepth 100000 in
set_option maxHeartbeats 4000000 in
theorem run_any (w : World) (n : Nat) (h1 : 1 ≤ n) (h2 : n ≤ 1024) (a : Option Addr) (c : Nat) (zs : List (Bool × Int)) (hl : zs.length ≤ 40) (hz : ReadA w a zs) :
    Calls Try.prog 9 #[.int .i64 n, .slice a zs.length c] w fun e w' => ∃ g gp v os fr, e = .returned (.tuple #[ptr g, v, .bool true]) ∧ w.heap.size ≤ g ∧ w.heap.size ≤ gp ∧ (∃ B, g < B ∧ gp < B ∧ B ≤ w'.heap.size ∧ Sy B w' g gp n v os fr) ∧ Below w.heap.size w w' := by
  have Hz := Lib.hid hz
  clear hz
  go_enter Try.func9, Try.ntmps9
  go_wp2_with fail
  refine (pa_new _ n h1 h2).mono ?_
  rintro e w1 ⟨g, gp, rfl, hg, hgp, p1, b1⟩
  have P1 := Lib.hid p1
  clear p1
  go_wp2_with fail
  refine (rnew_any _ n h1 h2).mono ?_
  rintro e w2 ⟨v, rfl, hrp, b2⟩
  have hr0 : RR w1.heap.size w2 v n (osK n) (List.range n) := ⟨ones n, hrp, ones_len n, fun i hi => by unfold ones osK; rw [if_pos hi]; simp [List.getD, hi]⟩
  have R0 := Lib.hid hr0
  obtain ⟨ao, co, af, cf, rfl⟩ := hr0.val
  clear hrp hr0
  have hzg : g < w1.heap.size := by obtain ⟨_, ⟨_, _, hp, _⟩, _⟩ := P1.out; exact blk_lt hp.1
  have hzp : gp < w1.heap.size := by obtain ⟨_, ⟨_, _, hp, _⟩, _⟩ := P1.out; exact row_lt hp.2.1
  have hz0 : w.heap.size + 1 ≤ w1.heap.size := by have := b1.size; simpa using this
  have hz2 := b2.size
  have XR : w2.heap[w.heap.size]? = some (.cells #[.slice none 0 0, .slice none 0 0] 27 (0, 0)) := below_blk b2 (below_blk b1 (blk_new _ _) (by simp)) (by omega)
  have b3 : Below w.heap.size w w2 := ((Below.refl _ _).alloc (Nat.le_refl _) _).trans ((b1.mono (by simp)).trans (b2.mono (by omega)))
  have P2 := Lib.hid (P1.out.below b2)
  simp only [List.length_range] at R0 ⊢
  simp only [World.size_alloc] at hg hgp
  have HXR := Lib.hid XR
  have Hb3 := Lib.hid b3
  clear b1 XR b3
  have X9 : (w2.alloc (.cells #[.slice ao n co, .slice af n cf] 27)).heap[w2.heap.size]? = some (.cells #[.slice ao n co, .slice af n cf] 27 (0, 0)) := blk_new _ _
  have bX : Below w2.heap.size w2 (w2.alloc (.cells #[.slice ao n co, .slice af n cf] 27)) := (Below.refl _ _).alloc (Nat.le_refl _) _
  have hstart : Sy w1.heap.size (w2.alloc (.cells #[.slice ao n co, .slice af n cf] 27)) g gp n (.agg #[.slice ao n co, .slice af n cf]) (osK n) (List.range n) :=
    ⟨P2.out.below bX, R0.out.keep bX⟩
  have Hst := Lib.hid hstart
  have HX9 := Lib.hid X9
  clear hstart X9 bX
  go_wp2_with fail
  go_loopw [11] (fun i wr => ∃ (k : Nat) (os : Nat → Int) (fr : List Nat) (vo vf : Value), i = .int .i64 k ∧ k ≤ zs.length ∧ wr.heap[w2.heap.size]? = some (.cells #[vo, vf] 27 (0, 0)) ∧ Sy w1.heap.size wr g gp n (.agg #[vo, vf]) os fr ∧ wr.heap[w.heap.size]? = some (.cells #[.slice none 0 0, .slice none 0 0] 27 (0, 0)) ∧ Below w.heap.size w wr ∧ w2.heap.size < wr.heap.size) (fun i _ => zs.length - (intOf i).toNat)
  case atStart => exact ⟨0, _, _, _, _, rfl, Nat.zero_le _, HX9.out, Hst.out, blk_alloc HXR.out _, Hb3.out.alloc Hb3.out.size _, by simp⟩
  case round =>
    obtain ⟨k, os, fr, vo, vf, rfl, hk, hx, hs, hxr, br, hzr⟩ := hrel
    have Hs := Lib.hid hs
    obtain ⟨a1, c1, a2, c2, hv⟩ := hs.2.val
    cases hv
    have hflen : fr.length ≤ 1024 := Nat.le_trans hs.1.1 h2
    clear hs
    have HX := Lib.hid hx
    have HXr := Lib.hid hxr
    by_cases hlt : k < zs.length
    · obtain ⟨b, off, rfl, t0, t1⟩ := Hz.out.elem br hlt
      obtain ⟨act, hact⟩ : ∃ act, act = zs.getD k (false, 0) := ⟨_, rfl⟩
      have Ha := Lib.hid (fun (W : World) (k : Below w.heap.size w W) => Hz.out.elemAll hlt k)
      rw [← hact] at t0 t1 Ha
      clear hact hx hxr
      obtain ⟨gv, o⟩ := act
      cases gv
      · go_wp2_with fail
        refine (ps_take wr g gp n os fr o Hs.out.1).mono ?_
        rintro e w3 ⟨m, er, os', fr', rfl, ht, p3, k3⟩
        have Ht := Lib.hid ht
        have P3 := Lib.hid p3
        have hsz3 := k3.size
        have X3 := Lib.hid (k3.blk HX.out (fun h => by omega))
        have XR3 := Lib.hid (k3.blk HXr.out (fun h => by omega))
        have R3 := Lib.hid (Hs.out.2.keepS k3 (fun i hi h => by omega))
        have b3' := below_keep br k3 br.size (fun i hi => by omega)
        have hzl : w2.heap.size < w3.heap.size := by omega
        clear ht p3 k3
        go_wp2_with fail
        have t1' := (Ha.out w3 b3').2
        have y0 := blk_cell X3.out 0
        have y1 := blk_cell X3.out 1
        have HELD := Lib.hid (fun W (k : Below w3.heap.size w3 W) => held_s X3.out t1' k)
        have Bd := Lib.hid b3'
        have hB1 : w1.heap.size ≤ w3.heap.size := by omega
        go_region_held3 (fun W => Below w3.heap.size w3 W ∧ W.cell? ⟨w2.heap.size, 0, none⟩ = some (.slice a1 n c1) ∧ W.cell? ⟨w2.heap.size, 1, none⟩ = some (.slice a2 fr.length c2) ∧ W.cell? ⟨b, off + k * 2 + 1, none⟩ = some (.int .i64 o))
          (first
            | exact HELD.out _ (Below.refl _ _)
            | exact HELD.out _ (below_drew (Below.refl _ _))
            | exact HELD.out _ (below_drew ((Below.refl _ _).alloc (Nat.le_refl _) _))
            | exact HELD.out _ ((Below.refl _ _).alloc (Nat.le_refl _) _)
            | exact HELD.out _ b4'
            | exact HELD.out _ (b4'.alloc b4'.size _)
            | exact HELD.out _ (below1 (below1 b4' (Nat.le_refl _) b4'.size 0 _) (Nat.le_refl _) (by simp; exact b4'.size) 1 _))
          (first
            | (go_at_call 19; refine (rs_take w1.heap.size (w3.alloc (.cells #[.slice none 0 0, .slice none 0 0] 27)).drew _ n os fr o m er os' fr' ((R3.out.keep ((Below.refl _ _).alloc (Nat.le_refl _) (.cells #[.slice none 0 0, .slice none 0 0] 27))).keep (below_drew (Below.refl _ _))) (by simp; omega) h2 Ht.out).mono ?_; rintro e w4 ⟨v4, rfl, r4, b4⟩; have R4 := Lib.hid r4; obtain ⟨a3, c3, a4, c4, rfl⟩ := r4.val; clear r4; have hy := below_blk b4 (blk_drew (blk_new w3 _)) (by simp); have HY := Lib.hid hy; have hy0 := blk_cell hy 0; have hy1 := blk_cell hy 1; have hyf := blk_frozen hy 0; have hyg := blk_frozen hy 1; clear hy; have b4' : Below w3.heap.size w3 w4 := (below_drew ((Below.refl w3.heap.size w3).alloc (Nat.le_refl _) _)).trans (b4.mono (by simp)))
            | (go_at_call 19; refine (rs_take w1.heap.size w3.drew _ n os fr o m er os' fr' (R3.out.keep (below_drew (Below.refl _ _))) hB1 h2 Ht.out).mono ?_; rintro e w4 ⟨v4, rfl, r4, b4⟩; have R4 := Lib.hid r4; obtain ⟨a3, c3, a4, c4, rfl⟩ := r4.val; clear r4; have b4' : Below w3.heap.size w3 w4 := (below_drew (Below.refl w3.heap.size w3)).trans (b4.mono (Nat.le_refl _))))
        all_goals
          rename_i hH
          first
            | (have bY : Below w3.heap.size w3 (w4.alloc (.cells #[.slice a3 n c3, .slice a4 fr'.length c4] 27)) := hH.1; have hY := blk_new w4 (.cells #[.slice a3 n c3, .slice a4 fr'.length c4] 27); have RY := Lib.hid (R4.out.keep ((Below.refl _ _).alloc (Nat.le_refl _) (.cells #[.slice a3 n c3, .slice a4 fr'.length c4] 27))); have hgy : w3.heap.size ≤ w4.heap.size := b4'.size; clear hH; generalize w4.alloc (.cells #[.slice a3 n c3, .slice a4 fr'.length c4] 27) = WY at bY hY RY ⊢; generalize w4.heap.size = gy at hY hgy ⊢)
            | (have F := fill_s (u1 := .slice a3 n c3) (u2 := .slice a4 fr'.length c4) (Nat.le_refl _) HY.out b4' (by simp) (by simp) R4.out; obtain ⟨bY, ry, hY⟩ := F; have RY := Lib.hid ry; have hgy : w3.heap.size ≤ w3.heap.size := Nat.le_refl _; clear hH ry; generalize ((w4.setCell ⟨w3.heap.size, 0, none⟩ (.slice a3 n c3)).setCell ⟨w3.heap.size, 1, none⟩ (.slice a4 fr'.length c4)) = WY at bY hY RY ⊢; generalize hgz : w3.heap.size = gy at hY ⊢; clear hgz)
          have xy := below_blk bY X3.out hzl
          have xr := below_blk bY XR3.out (by omega)
          have pY := P3.out.below bY
          have bw := b3'.trans (bY.mono b3'.size)
          have hzY := bY.size
          have cy0 := blk_cell hY 0
          have cy1 := blk_cell hY 1
          have cf0 := blk_frozen xy 0
          have cf1 := blk_frozen xy 1
          have cx0 := blk_cell xy 0
          have cx1 := blk_cell xy 1
          have Hxr := Lib.hid xr
          have HpY := Lib.hid pY
          have SB := Lib.hid (sy_box (u1 := .slice a3 n c3) (u2 := .slice a4 fr'.length c4) ⟨pY, RY.out⟩ xy (by simp) (by simp) (by omega) (by omega))
          have Hbw := Lib.hid bw
          clear xy xr pY bw hY bY
          go_wp2_with fail
          go_roundw
          case rel => exact ⟨k + 1, os', fr', _, _, by go_num, hlt, SB.out.2.1, SB.out.1, SB.out.2.2.blk Hxr.out (by omega), below_keep Hbw.out SB.out.2.2 Hbw.out.size (fun i hi => by omega), Nat.lt_of_lt_of_le (by omega) SB.out.2.2.size⟩
          case measure => simp [intOf]; omega
      · go_wp2_with fail
        refine (ps_give wr g gp n os fr o Hs.out.1).mono ?_
        rintro e w3 ⟨er, os', fr', rfl, ht, p3, k3⟩
        have Ht := Lib.hid ht
        have P3 := Lib.hid p3
        have hsz3 := k3.size
        have X3 := Lib.hid (k3.blk HX.out (fun h => by omega))
        have XR3 := Lib.hid (k3.blk HXr.out (fun h => by omega))
        have R3 := Lib.hid (Hs.out.2.keepS k3 (fun i hi h => by omega))
        have b3' := below_keep br k3 br.size (fun i hi => by omega)
        have hzl : w2.heap.size < w3.heap.size := by omega
        clear ht p3 k3
        go_wp2_with fail
        have t1' := (Ha.out w3 b3').2
        have y0 := blk_cell X3.out 0
        have y1 := blk_cell X3.out 1
        have HELD := Lib.hid (fun W (k : Below w3.heap.size w3 W) => held_s X3.out t1' k)
        have Bd := Lib.hid b3'
        have hB1 : w1.heap.size ≤ w3.heap.size := by omega
        go_region_held3 (fun W => Below w3.heap.size w3 W ∧ W.cell? ⟨w2.heap.size, 0, none⟩ = some (.slice a1 n c1) ∧ W.cell? ⟨w2.heap.size, 1, none⟩ = some (.slice a2 fr.length c2) ∧ W.cell? ⟨b, off + k * 2 + 1, none⟩ = some (.int .i64 o))
          (first
            | exact HELD.out _ (Below.refl _ _)
            | exact HELD.out _ (below_drew (Below.refl _ _))
            | exact HELD.out _ (below_drew ((Below.refl _ _).alloc (Nat.le_refl _) _))
            | exact HELD.out _ ((Below.refl _ _).alloc (Nat.le_refl _) _)
            | exact HELD.out _ b4'
            | exact HELD.out _ (b4'.alloc b4'.size _)
            | exact HELD.out _ (below1 (below1 b4' (Nat.le_refl _) b4'.size 0 _) (Nat.le_refl _) (by simp; exact b4'.size) 1 _))
          (first
            | (go_at_call 18; refine (rs_give w1.heap.size (w3.alloc (.cells #[.slice none 0 0, .slice none 0 0] 27)).drew _ n os fr o er os' fr' ((R3.out.keep ((Below.refl _ _).alloc (Nat.le_refl _) (.cells #[.slice none 0 0, .slice none 0 0] 27))).keep (below_drew (Below.refl _ _))) (by simp; omega) h2 hflen Ht.out).mono ?_; rintro e w4 ⟨v4, rfl, r4, b4⟩; have R4 := Lib.hid r4; obtain ⟨a3, c3, a4, c4, rfl⟩ := r4.val; clear r4; have hy := below_blk b4 (blk_drew (blk_new w3 _)) (by simp); have HY := Lib.hid hy; have hy0 := blk_cell hy 0; have hy1 := blk_cell hy 1; have hyf := blk_frozen hy 0; have hyg := blk_frozen hy 1; clear hy; have b4' : Below w3.heap.size w3 w4 := (below_drew ((Below.refl w3.heap.size w3).alloc (Nat.le_refl _) _)).trans (b4.mono (by simp)))
            | (go_at_call 18; refine (rs_give w1.heap.size w3.drew _ n os fr o er os' fr' (R3.out.keep (below_drew (Below.refl _ _))) hB1 h2 hflen Ht.out).mono ?_; rintro e w4 ⟨v4, rfl, r4, b4⟩; have R4 := Lib.hid r4; obtain ⟨a3, c3, a4, c4, rfl⟩ := r4.val; clear r4; have b4' : Below w3.heap.size w3 w4 := (below_drew (Below.refl w3.heap.size w3)).trans (b4.mono (Nat.le_refl _))))
        all_goals
          rename_i hH
          first
            | (have bY : Below w3.heap.size w3 (w4.alloc (.cells #[.slice a3 n c3, .slice a4 fr'.length c4] 27)) := hH.1; have hY := blk_new w4 (.cells #[.slice a3 n c3, .slice a4 fr'.length c4] 27); have RY := Lib.hid (R4.out.keep ((Below.refl _ _).alloc (Nat.le_refl _) (.cells #[.slice a3 n c3, .slice a4 fr'.length c4] 27))); have hgy : w3.heap.size ≤ w4.heap.size := b4'.size; clear hH; generalize w4.alloc (.cells #[.slice a3 n c3, .slice a4 fr'.length c4] 27) = WY at bY hY RY ⊢; generalize w4.heap.size = gy at hY hgy ⊢)
            | (have F := fill_s (u1 := .slice a3 n c3) (u2 := .slice a4 fr'.length c4) (Nat.le_refl _) HY.out b4' (by simp) (by simp) R4.out; obtain ⟨bY, ry, hY⟩ := F; have RY := Lib.hid ry; have hgy : w3.heap.size ≤ w3.heap.size := Nat.le_refl _; clear hH ry; generalize ((w4.setCell ⟨w3.heap.size, 0, none⟩ (.slice a3 n c3)).setCell ⟨w3.heap.size, 1, none⟩ (.slice a4 fr'.length c4)) = WY at bY hY RY ⊢; generalize hgz : w3.heap.size = gy at hY ⊢; clear hgz)
          have xy := below_blk bY X3.out hzl
          have xr := below_blk bY XR3.out (by omega)
          have pY := P3.out.below bY
          have bw := b3'.trans (bY.mono b3'.size)
          have hzY := bY.size
          have cy0 := blk_cell hY 0
          have cy1 := blk_cell hY 1
          have cf0 := blk_frozen xy 0
          have cf1 := blk_frozen xy 1
          have cx0 := blk_cell xy 0
          have cx1 := blk_cell xy 1
          have Hxr := Lib.hid xr
          have HpY := Lib.hid pY
          have SB := Lib.hid (sy_box (u1 := .slice a3 n c3) (u2 := .slice a4 fr'.length c4) ⟨pY, RY.out⟩ xy (by simp) (by simp) (by omega) (by omega))
          have Hbw := Lib.hid bw
          clear xy xr pY bw hY bY
          go_wp2_with fail
          go_roundw
          case rel => exact ⟨k + 1, os', fr', _, _, by go_num, hlt, SB.out.2.1, SB.out.1, SB.out.2.2.blk Hxr.out (by omega), below_keep Hbw.out SB.out.2.2 Hbw.out.size (fun i hi => by omega), Nat.lt_of_lt_of_le (by omega) SB.out.2.2.size⟩
          case measure => simp [intOf]; omega
    · obtain rfl : k = zs.length := by omega
      have y0 := blk_cell hx 0
      have y1 := blk_cell hx 1
      have z0 := blk_cell hxr 0
      have z1 := blk_cell hxr 1
      have q0 := blk_frozen hxr 0
      have q1 := blk_frozen hxr 1
      have hnz : w.heap.size ≠ w2.heap.size := by omega
      have SB := Lib.hid (sy_box (u1 := .slice a1 n c1) (u2 := .slice a2 fr.length c2) Hs.out hxr (by simp) (by simp) (by omega) (by omega))
      clear hx hxr
      go_wp2_with fail
      go_region
      have r0 := blk_cell SB.out.2.1 0
      have r1 := blk_cell SB.out.2.1 1
      have hd := below_drew (Below.refl ((wr.setCell ⟨w.heap.size, 0, none⟩ (.slice a1 n c1)).setCell ⟨w.heap.size, 1, none⟩ (.slice a2 fr.length c2)).heap.size ((wr.setCell ⟨w.heap.size, 0, none⟩ (.slice a1 n c1)).setCell ⟨w.heap.size, 1, none⟩ (.slice a2 fr.length c2)))
      go_wp2_with fail
      refine bodyPost_ret (v := .tuple #[ptr g, .agg #[.slice a1 n c1, .slice a2 fr.length c2], .bool true]) (by simp [results, Try.results9, go_sem, r0, r1]) rfl ⟨g, gp, _, os, fr, rfl, by omega, by omega, ⟨w1.heap.size, hzg, hzp, ?_, SB.out.1.1.below hd, SB.out.1.2.keep hd⟩, ?_⟩
      · have := SB.out.2.2.size
        exact Nat.le_trans (Nat.le_trans hz2 (Nat.le_of_lt hzr)) this
      · exact below_drew (below_keep br SB.out.2.2 br.size (fun i hi => by omega))
end Go.Proofs.Ytlajbgopidllbaa
