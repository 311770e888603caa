/- The contract of the reference's Take. -/
import Derived.Test.YtkbifnbblimnlaaRLook
import Derived.Test.YtkbifnbblimnlaaAwake
namespace Go.Proofs.Ytkbifnbblimnlaa
open Go.RowKit
set_option linter.unusedVariables false
attribute [local go_sem] Oper.semAt_some

theorem ry_alloc {B : Nat → Prop} {w4 W' : World} {v : Value} {l : List Value} {o : Obj} (r : VV B w4 v l) (k : Keep (fun i => i = w4.heap.size) (w4.alloc o) W') : VV B W' v l :=
  r.keep (below_keep ((Below.refl _ _).alloc (Nat.le_refl _) o) k (by simp) (fun i hi => by omega))
theorem ry_fill {W0 w4 W' : World} {v u0 u1 u2 u3 : Value} {l : List Value} (r : VV (fun i => W0.heap.size + 1 ≤ i) w4 v l) (k : Keep (fun i => i = W0.heap.size) ((((w4.setCell ⟨W0.heap.size, 0, none⟩ u0).setCell ⟨W0.heap.size, 1, none⟩ u1).setCell ⟨W0.heap.size, 2, none⟩ u2).setCell ⟨W0.heap.size, 3, none⟩ u3) W') : VV (fun i => W0.heap.size ≤ i) W' v l :=
  (r.keepS (((((((Keep.refl (fun i => i = W0.heap.size) w4).setCell (.inl rfl) u0).setCell (.inl rfl) u1).setCell (.inl rfl) u2).setCell (.inl rfl) u3)).then k (fun i hi => .inl hi)) (fun i hi h => by omega)).mono (fun i hi => by omega)
theorem fill4 {W0 w4 : World} {v0 v1 v2 v3 u0 u1 u2 u3 : Value} {t : TypeId} (hb : w4.heap[W0.heap.size]? = some (.cells #[v0, v1, v2, v3] t (0, 0))) (b : Below W0.heap.size W0 w4) :
    Below W0.heap.size W0 ((((w4.setCell ⟨W0.heap.size, 0, none⟩ u0).setCell ⟨W0.heap.size, 1, none⟩ u1).setCell ⟨W0.heap.size, 2, none⟩ u2).setCell ⟨W0.heap.size, 3, none⟩ u3) ∧
      ((((w4.setCell ⟨W0.heap.size, 0, none⟩ u0).setCell ⟨W0.heap.size, 1, none⟩ u1).setCell ⟨W0.heap.size, 2, none⟩ u2).setCell ⟨W0.heap.size, 3, none⟩ u3).heap[W0.heap.size]? = some (.cells #[u0, u1, u2, u3] t (0, 0)) := by
  have hz := b.size
  refine ⟨below1 (below1 (below1 (below1 b (Nat.le_refl _) hz 0 _) (Nat.le_refl _) (by simp; exact hz) 1 _) (Nat.le_refl _) (by simp; exact hz) 2 _) (Nat.le_refl _) (by simp; exact hz) 3 _, ?_⟩
  have := blk_set (blk_set (blk_set (blk_set hb 0 u0) 1 u1) 2 u2) 3 u3
  simpa using this
theorem held4 {w w' : World} {h b o : Nat} {t : TypeId} {v0 v1 v2 v3 : Value} {x : Value} (hb : w.heap[h]? = some (.cells #[v0, v1, v2, v3] t (0, 0))) (hx : w.cell? ⟨b, o, none⟩ = some x) (k : Below w.heap.size w w') :
    Below w.heap.size w w' ∧ w'.cell? ⟨h, 0, none⟩ = some v0 ∧ w'.cell? ⟨h, 1, none⟩ = some v1 ∧ w'.cell? ⟨h, 2, none⟩ = some v2 ∧ w'.cell? ⟨h, 3, none⟩ = some v3 ∧ w'.cell? ⟨b, o, none⟩ = some x :=
  ⟨k, (blk_cell (below_blk k hb (blk_lt hb)) 0).trans rfl, (blk_cell (below_blk k hb (blk_lt hb)) 1).trans rfl, (blk_cell (below_blk k hb (blk_lt hb)) 2).trans rfl, (blk_cell (below_blk k hb (blk_lt hb)) 3).trans rfl, (k.cell (p := ⟨b, o, none⟩) (World.block_lt_of_cell? w _ hx)).trans hx⟩
theorem ilist_zero (f : Nat) (fs : List Nat) : (ilist (f :: fs))[0]? = some (.int .i64 f) := rfl

set_option maxHeartbeats 1000000 in
theorem rtake_none (B : Nat → Prop) (w : World) (v : Value) (n : Nat) (gens : Int) (gn : Nat → Int) (lv : Nat → Bool) (hr : RT B w v n gens gn lv []) :
    Calls Try.prog 21 #[v] w fun e w' => e = .returned (.tuple #[v, .int .i64 0, .int .i64 0, .int .i64 4]) ∧ Below w.heap.size w w' := by
  obtain ⟨a1, c1, a2, c2, a3, c3, rfl, k1, k2, k3⟩ := hr.val
  clear k1 k2 k3 hr
  go_enter Try.func21, Try.ntmps21
  go_wp2_with fail
  refine bodyPost_ret (v := .tuple #[.agg #[.slice a1 n c1, .slice a2 n c2, .slice a3 ([] : List Nat).length c3, .int .i64 gens], .int .i64 0, .int .i64 0, .int .i64 4]) (by simp [results, Try.results21, go_sem]) rfl ⟨rfl, ?_⟩
  exact ((Below.refl _ _).alloc (Nat.le_refl _) _).alloc (by simp) _

set_option maxRecDepth 100000 in
set_option maxHeartbeats 4000000 in
theorem rtake_any (B : Nat → Prop) (w : World) (v : Value) (n : Nat) (gens : Int) (gn : Nat → Int) (lv : Nat → Bool) (f : Nat) (fs : List Nat) (hr : RT B w v n gens gn lv (f :: fs)) (hBw : ∀ i, w.heap.size ≤ i → B i) (hi : f < n) (hn : n ≤ 4096) (hg : 1 ≤ gn f ∧ gn f ≤ 1023) :
    Calls Try.prog 21 #[v] w fun e w' => ∃ v', e = .returned (.tuple #[v', .int .i64 (gn f * 4096 + f), .int .i64 f, .int .i64 0]) ∧ RT B w' v' n gens gn (updB lv f true) fs ∧ Below w.heap.size w w' := by
  obtain ⟨a1, c1, a2, c2, a3, c3, rfl, k1, k2, k3⟩ := hr.val
  have E1 := k1.elemS (icol_get gn n f hi)
  have E3 := k3.elemS (ilist_zero f fs)
  obtain ⟨b1, o1, rfl, hc1, hm1, x1⟩ := E1
  obtain ⟨b3, o3, rfl, hc3, hm3, x3⟩ := E3
  have K1 := Lib.hid k1
  have K2 := Lib.hid k2
  have K3 := Lib.hid k3
  obtain ⟨m, hm⟩ : ∃ m, m = (f :: fs).length := ⟨_, rfl⟩
  have hm0 : 1 ≤ m := by rw [hm]; simp
  have Hfs : Hid (fs.length = m - 1) := Lib.hid (by rw [hm]; simp)
  rw [← hm] at hc3 K3 ⊢
  clear k1 k2 k3 hr hm
  have hb0 : Below w.heap.size w ((w.alloc (.cells #[.slice (some ⟨b1, o1, none⟩) n c1, .slice a2 n c2, .slice (some ⟨b3, o3, none⟩) m c3, .int .i64 gens] 29)).alloc (.cells #[.slice none 0 0, .slice none 0 0, .slice none 0 0, .int .i64 0] 29)) := ((Below.refl _ _).alloc (Nat.le_refl _) _).alloc (by simp) _
  have X0 : ((w.alloc (.cells #[.slice (some ⟨b1, o1, none⟩) n c1, .slice a2 n c2, .slice (some ⟨b3, o3, none⟩) m c3, .int .i64 gens] 29)).alloc (.cells #[.slice none 0 0, .slice none 0 0, .slice none 0 0, .int .i64 0] 29)).heap[w.heap.size]? = some (.cells #[.slice (some ⟨b1, o1, none⟩) n c1, .slice a2 n c2, .slice (some ⟨b3, o3, none⟩) m c3, .int .i64 gens] 29 (0, 0)) := blk_alloc (blk_new _ _) _
  have X1 : ((w.alloc (.cells #[.slice (some ⟨b1, o1, none⟩) n c1, .slice a2 n c2, .slice (some ⟨b3, o3, none⟩) m c3, .int .i64 gens] 29)).alloc (.cells #[.slice none 0 0, .slice none 0 0, .slice none 0 0, .int .i64 0] 29)).heap[w.heap.size + 1]? = some (.cells #[.slice none 0 0, .slice none 0 0, .slice none 0 0, .int .i64 0] 29 (0, 0)) := by
    have := blk_new (w.alloc (.cells #[.slice (some ⟨b1, o1, none⟩) n c1, .slice a2 n c2, .slice (some ⟨b3, o3, none⟩) m c3, .int .i64 gens] 29)) (.cells #[.slice none 0 0, .slice none 0 0, .slice none 0 0, .int .i64 0] 29)
    simpa using this
  have y1 := x1 _ hb0
  have y3 := x3 _ hb0
  rw [Nat.add_zero] at y3
  have hsz : ((w.alloc (.cells #[.slice (some ⟨b1, o1, none⟩) n c1, .slice a2 n c2, .slice (some ⟨b3, o3, none⟩) m c3, .int .i64 gens] 29)).alloc (.cells #[.slice none 0 0, .slice none 0 0, .slice none 0 0, .int .i64 0] 29)).heap.size = w.heap.size + 2 := by simp
  have HB0 := Lib.hid hb0
  have HX0 := Lib.hid X0
  have HX1 := Lib.hid X1
  have Hsz := Lib.hid hsz
  have Hgf : Hid (icol (upd gn f (gn f)) n = icol gn n) := Lib.hid (by apply col_congr; intro j _; unfold upd; split <;> simp_all)
  obtain ⟨q, hq⟩ : ∃ q, q = gn f := ⟨_, rfl⟩
  rw [← hq] at y1 Hgf hg ⊢
  have Y1 := Lib.hid y1
  have e0 : ((m : Int) == 0) = false := beq_eq_false_iff_ne.2 (by omega)
  clear hb0 X0 X1 hsz x1 x3 hq
  go_enter Try.func21, Try.ntmps21
  go_wp2_with fail
  refine (rjoin_yes _ f q ⟨by omega, by omega, hg.1, hg.2⟩).mono ?_
  rintro e w1 ⟨rfl, rfl⟩
  generalize (w.alloc (.cells #[.slice (some ⟨b1, o1, none⟩) n c1, .slice a2 n c2, .slice (some ⟨b3, o3, none⟩) m c3, .int .i64 gens] 29)).alloc (.cells #[.slice none 0 0, .slice none 0 0, .slice none 0 0, .int .i64 0] 29) = W0 at HB0 HX0 HX1 Hsz Y1 y1 y3 ⊢
  go_wp2_with fail
  have HELD := Lib.hid (fun W (k : Below W0.heap.size W0 W) => held4 HX0.out Y1.out k)
  have z0 := blk_cell HX0.out 0
  have z1 := blk_cell HX0.out 1
  have z2 := blk_cell HX0.out 2
  have z3 := blk_cell HX0.out 3
  go_region_held3 (fun W => Below W0.heap.size W0 W ∧ W.cell? ⟨w.heap.size, 0, none⟩ = some (.slice (some ⟨b1, o1, none⟩) n c1) ∧ W.cell? ⟨w.heap.size, 1, none⟩ = some (.slice a2 n c2) ∧ W.cell? ⟨w.heap.size, 2, none⟩ = some (.slice (some ⟨b3, o3, none⟩) m c3) ∧ W.cell? ⟨w.heap.size, 3, none⟩ = some (.int .i64 gens) ∧ W.cell? ⟨b1, o1 + f, none⟩ = some (.int .i64 q))
      (first
        | exact HELD.out _ (Below.refl _ _)
        | exact HELD.out _ (below_drew (Below.refl _ _))
        | exact HELD.out _ (below_drew ((Below.refl _ _).alloc (Nat.le_refl _) _))
        | exact HELD.out _ ((Below.refl _ _).alloc (Nat.le_refl _) _)
        | exact HELD.out _ b4'
        | exact HELD.out _ (b4'.alloc b4'.size _)
        | exact HELD.out _ (below1 (below1 (below1 (below1 b4' (Nat.le_refl _) b4'.size 0 _) (Nat.le_refl _) (by simp; exact b4'.size) 1 _) (Nat.le_refl _) (by simp; exact b4'.size) 2 _) (Nat.le_refl _) (by simp; exact b4'.size) 3 _))
      (first
        | (go_at_call 26; refine (with_any B B (W0.alloc (.cells #[.slice none 0 0, .slice none 0 0, .slice none 0 0, .int .i64 0] 29)).drew n m gens gn lv (some ⟨b1, o1, none⟩) a2 (some ⟨b3, o3, none⟩) c1 c2 c3 f q true (K1.out.keep (HB0.out.trans ((below_drew ((Below.refl W0.heap.size W0).alloc (Nat.le_refl _) (.cells #[.slice none 0 0, .slice none 0 0, .slice none 0 0, .int .i64 0] 29))).mono HB0.out.size))) (K2.out.keep (HB0.out.trans ((below_drew ((Below.refl W0.heap.size W0).alloc (Nat.le_refl _) (.cells #[.slice none 0 0, .slice none 0 0, .slice none 0 0, .int .i64 0] 29))).mono HB0.out.size))) hi hn).mono ?_; rintro e w4 ⟨a4, c4, a5, c5, rfl, r4, r5, b4⟩; have R4 := Lib.hid (r4.mono (B' := fun i => W0.heap.size + 1 ≤ i) (fun i hi => by simpa using hi)); have R5 := Lib.hid (r5.mono (B' := fun i => W0.heap.size + 1 ≤ i) (fun i hi => by simpa using hi)); clear r4 r5; have hy := below_blk b4 (blk_drew (blk_new W0 _)) (by simp); have HY := Lib.hid hy; have hy0 := blk_cell hy 0; have hy1 := blk_cell hy 1; have hy2 := blk_cell hy 2; have hy3 := blk_cell hy 3; have hyf := blk_frozen hy 0; have hyg := blk_frozen hy 1; have hyh := blk_frozen hy 2; have hyi := blk_frozen hy 3; clear hy; have b4' : Below W0.heap.size W0 w4 := (below_drew ((Below.refl W0.heap.size W0).alloc (Nat.le_refl _) _)).trans (b4.mono (by simp)))
        | (go_at_call 26; refine (with_any B B W0.drew n m gens gn lv (some ⟨b1, o1, none⟩) a2 (some ⟨b3, o3, none⟩) c1 c2 c3 f q true (K1.out.keep (HB0.out.trans ((below_drew (Below.refl W0.heap.size W0)).mono HB0.out.size))) (K2.out.keep (HB0.out.trans ((below_drew (Below.refl W0.heap.size W0)).mono HB0.out.size))) hi hn).mono ?_; rintro e w4 ⟨a4, c4, a5, c5, rfl, r4, r5, b4⟩; have R4 := Lib.hid r4; have R5 := Lib.hid r5; clear r4 r5; have b4' : Below W0.heap.size W0 w4 := (below_drew (Below.refl W0.heap.size W0)).trans (b4.mono (Nat.le_refl _))))
  all_goals
    rename_i hH
    first
      | (have bY : Below W0.heap.size W0 (w4.alloc (.cells #[.slice a4 n c4, .slice a5 n c5, .slice (some ⟨b3, o3, none⟩) m c3, .int .i64 gens] 29)) := hH.1; have hY := blk_new w4 (.cells #[.slice a4 n c4, .slice a5 n c5, .slice (some ⟨b3, o3, none⟩) m c3, .int .i64 gens] 29); have RG := Lib.hid (fun W' => ry_alloc (o := .cells #[.slice a4 n c4, .slice a5 n c5, .slice (some ⟨b3, o3, none⟩) m c3, .int .i64 gens] 29) (W' := W') R4.out); have RL := Lib.hid (fun W' => ry_alloc (o := .cells #[.slice a4 n c4, .slice a5 n c5, .slice (some ⟨b3, o3, none⟩) m c3, .int .i64 gens] 29) (W' := W') R5.out); have hgy : W0.heap.size ≤ w4.heap.size := b4'.size; clear hH; generalize w4.alloc (.cells #[.slice a4 n c4, .slice a5 n c5, .slice (some ⟨b3, o3, none⟩) m c3, .int .i64 gens] 29) = WY at bY hY RG RL ⊢; generalize w4.heap.size = gy at hY hgy RG RL ⊢)
      | (have F := fill4 (u0 := .slice a4 n c4) (u1 := .slice a5 n c5) (u2 := .slice (some ⟨b3, o3, none⟩) m c3) (u3 := .int .i64 gens) HY.out b4'; obtain ⟨bY, hY⟩ := F; have RG := Lib.hid (fun W' => ry_fill (u0 := .slice a4 n c4) (u1 := .slice a5 n c5) (u2 := .slice (some ⟨b3, o3, none⟩) m c3) (u3 := .int .i64 gens) (W' := W') R4.out); have RL := Lib.hid (fun W' => ry_fill (u0 := .slice a4 n c4) (u1 := .slice a5 n c5) (u2 := .slice (some ⟨b3, o3, none⟩) m c3) (u3 := .int .i64 gens) (W' := W') R5.out); clear hH; generalize ((((w4.setCell ⟨W0.heap.size, 0, none⟩ (.slice a4 n c4)).setCell ⟨W0.heap.size, 1, none⟩ (.slice a5 n c5)).setCell ⟨W0.heap.size, 2, none⟩ (.slice (some ⟨b3, o3, none⟩) m c3)).setCell ⟨W0.heap.size, 3, none⟩ (.int .i64 gens)) = WY at bY hY RG RL ⊢; generalize hgz : W0.heap.size = gy at hY RG RL ⊢; have hgy : W0.heap.size ≤ gy := Nat.le_of_eq hgz; clear hgz)
    have hsz := Hsz.out
    have hgyw : gy ≠ w.heap.size := by omega
    have hgyw1 : gy ≠ w.heap.size + 1 := by omega
    have x0 := below_blk bY HX0.out (by omega)
    have x1 := below_blk bY HX1.out (by omega)
    have bw : Below w.heap.size w WY := HB0.out.trans (bY.mono (by omega))
    have Hbw := Lib.hid bw
    have HY' := Lib.hid hY
    have HX1' := Lib.hid x1
    have p0 := blk_cell hY 0
    have p1 := blk_cell hY 1
    have p2 := blk_cell hY 2
    have p3 := blk_cell hY 3
    have pf := blk_frozen hY 2
    have s2 := blk_cell x0 2
    have t0 := blk_cell x1 0
    have t1 := blk_cell x1 1
    have t2 := blk_cell x1 2
    have t3 := blk_cell x1 3
    have tf0 := blk_frozen x1 0
    have tf1 := blk_frozen x1 1
    have tf2 := blk_frozen x1 2
    have tf3 := blk_frozen x1 3
    have hszY := bY.size
    clear bw hY x0 x1 bY
    by_cases hcf : c3 = 1
    · subst hcf
      have hm2 : m = 1 := by omega
      subst hm2
      have T := K3.out.tail1
      have hfs : fs = [] := List.eq_nil_of_length_eq_zero (by have := Hfs.out; omega)
      have HT := Lib.hid T.2
      clear T
      go_wp2_with fail
      obtain ⟨WZ, hWZ⟩ : ∃ WZ, WZ = WY.setCell ⟨gy, 2, none⟩ (.slice (some ⟨b3, o3, none⟩) 0 0) := ⟨_, rfl⟩
      obtain ⟨W, hW⟩ : ∃ W, W = ((((WZ.setCell ⟨w.heap.size + 1, 0, none⟩ (.slice a4 n c4)).setCell ⟨w.heap.size + 1, 1, none⟩ (.slice a5 n c5)).setCell ⟨w.heap.size + 1, 2, none⟩ (.slice (some ⟨b3, o3, none⟩) 0 0)).setCell ⟨w.heap.size + 1, 3, none⟩ (.int .i64 gens)) := ⟨_, rfl⟩
      rw [← hWZ, ← hW]
      have KZ : Keep (fun i => i = gy) WY WZ := by rw [hWZ]; exact (Keep.refl (fun i => i = gy) WY).setCell (.inl rfl) _
      have KW : Keep (fun i => i = w.heap.size + 1) WZ W := by rw [hW]; exact ((((Keep.refl (fun i => i = w.heap.size + 1) WZ).setCell (.inl rfl) _).setCell (.inl rfl) _).setCell (.inl rfl) _).setCell (.inl rfl) _
      have hr : W.heap[w.heap.size + 1]? = some (.cells #[.slice a4 n c4, .slice a5 n c5, .slice (some ⟨b3, o3, none⟩) 0 0, .int .i64 gens] 29 (0, 0)) := by
        rw [hW, hWZ]
        have h := blk_set (blk_set (blk_set (blk_set (blk_far (p := ⟨gy, 2, none⟩) HX1'.out (fun h => hgyw1 h.symm) (.slice (some ⟨b3, o3, none⟩) 0 0)) 0 (.slice a4 n c4)) 1 (.slice a5 n c5)) 2 (.slice (some ⟨b3, o3, none⟩) 0 0)) 3 (.int .i64 gens)
        simpa using h
      have hBZ : Below w.heap.size w WZ := below_keep Hbw.out KZ Hbw.out.size (fun i hi => by omega)
      have hB : Below w.heap.size w W := below_keep hBZ KW hBZ.size (fun i hi => by omega)
      have vg := ((RG.out WZ KZ).keepS KW (fun i hi h => by first | omega | (simp at hi; omega))).mono (B' := B) (fun i hi => hBw i (by first | omega | (simp at hi; omega)))
      have vl := ((RL.out WZ KZ).keepS KW (fun i hi h => by first | omega | (simp at hi; omega))).mono (B' := B) (fun i hi => hBw i (by first | omega | (simp at hi; omega)))
      rw [Hgf.out] at vg
      have vf := HT.out.keep hB
      have r0 := blk_cell hr 0
      have r1 := blk_cell hr 1
      have r2 := blk_cell hr 2
      have r3 := blk_cell hr 3
      exact bodyPost_ret (v := .tuple #[.agg #[.slice a4 n c4, .slice a5 n c5, .slice (some ⟨b3, o3, none⟩) 0 0, .int .i64 gens], .int .i64 (q * 4096 + f), .int .i64 f, .int .i64 0]) (by simp [results, Try.results21, go_sem, r0, r1, r2, r3]) rfl ⟨_, rfl, ⟨_, _, _, rfl, vg, vl, vf⟩, hB⟩
    · have hcf2 : 1 < c3 := by omega
      have HT := Lib.hid (K3.out.tail hcf2)
      go_wp2_with fail
      obtain ⟨WZ, hWZ⟩ : ∃ WZ, WZ = WY.setCell ⟨gy, 2, none⟩ (.slice (some ⟨b3, o3 + 1, none⟩) (m - 1) (c3 - 1)) := ⟨_, rfl⟩
      obtain ⟨W, hW⟩ : ∃ W, W = ((((WZ.setCell ⟨w.heap.size + 1, 0, none⟩ (.slice a4 n c4)).setCell ⟨w.heap.size + 1, 1, none⟩ (.slice a5 n c5)).setCell ⟨w.heap.size + 1, 2, none⟩ (.slice (some ⟨b3, o3 + 1, none⟩) (m - 1) (c3 - 1))).setCell ⟨w.heap.size + 1, 3, none⟩ (.int .i64 gens)) := ⟨_, rfl⟩
      rw [← hWZ, ← hW]
      have KZ : Keep (fun i => i = gy) WY WZ := by rw [hWZ]; exact (Keep.refl (fun i => i = gy) WY).setCell (.inl rfl) _
      have KW : Keep (fun i => i = w.heap.size + 1) WZ W := by rw [hW]; exact ((((Keep.refl (fun i => i = w.heap.size + 1) WZ).setCell (.inl rfl) _).setCell (.inl rfl) _).setCell (.inl rfl) _).setCell (.inl rfl) _
      have hr : W.heap[w.heap.size + 1]? = some (.cells #[.slice a4 n c4, .slice a5 n c5, .slice (some ⟨b3, o3 + 1, none⟩) (m - 1) (c3 - 1), .int .i64 gens] 29 (0, 0)) := by
        rw [hW, hWZ]
        have h := blk_set (blk_set (blk_set (blk_set (blk_far (p := ⟨gy, 2, none⟩) HX1'.out (fun h => hgyw1 h.symm) (.slice (some ⟨b3, o3 + 1, none⟩) (m - 1) (c3 - 1))) 0 (.slice a4 n c4)) 1 (.slice a5 n c5)) 2 (.slice (some ⟨b3, o3 + 1, none⟩) (m - 1) (c3 - 1))) 3 (.int .i64 gens)
        simpa using h
      have hBZ : Below w.heap.size w WZ := below_keep Hbw.out KZ Hbw.out.size (fun i hi => by omega)
      have hB : Below w.heap.size w W := below_keep hBZ KW hBZ.size (fun i hi => by omega)
      have vg := ((RG.out WZ KZ).keepS KW (fun i hi h => by first | omega | (simp at hi; omega))).mono (B' := B) (fun i hi => hBw i (by first | omega | (simp at hi; omega)))
      have vl := ((RL.out WZ KZ).keepS KW (fun i hi h => by first | omega | (simp at hi; omega))).mono (B' := B) (fun i hi => hBw i (by first | omega | (simp at hi; omega)))
      rw [Hgf.out] at vg
      have vf := HT.out.keep hB
      have r0 := blk_cell hr 0
      have r1 := blk_cell hr 1
      have r2 := blk_cell hr 2
      have r3 := blk_cell hr 3
      exact bodyPost_ret (v := .tuple #[.agg #[.slice a4 n c4, .slice a5 n c5, .slice (some ⟨b3, o3 + 1, none⟩) (m - 1) (c3 - 1), .int .i64 gens], .int .i64 (q * 4096 + f), .int .i64 f, .int .i64 0]) (by simp [results, Try.results21, go_sem, r0, r1, r2, r3]) rfl ⟨_, rfl, ⟨_, _, _, rfl, vg, vl, vf⟩, hB⟩
end Go.Proofs.Ytkbifnbblimnlaa
