/- The contract of the reference's Give. -/
import Derived.Test.YtkbifnbblimnlaaRTake
namespace Go.Proofs.Ytkbifnbblimnlaa
open Go.RowKit
set_option linter.unusedVariables false
attribute [local go_sem] Oper.semAt_some

theorem grow_keep {S : Nat → Prop} {W wE w3 : World} {g : Nat} (k : Keep S W wE) (hg : wE.grownBy w3 (some g)) (h : W.heap.size ≤ g) : Keep S W w3 :=
  k.then (keep_of_grown hg) (fun i hi => .inr (by have := Option.some.inj hi; omega))
theorem ilist_cons (i : Nat) (fr : List Nat) : [Value.int .i64 (i : Int)] ++ ilist fr = ilist (i :: fr) := rfl
set_option maxHeartbeats 1000000 in
theorem rgive_bad (B : Nat → Prop) (w : World) (v : Value) (n : Nat) (gens : Int) (gn : Nat → Int) (lv : Nat → Bool) (fr : List Nat) (h : Int) (hr : RT B w v n gens gn lv fr) (hb : (lookS n lv gn h).2 ≠ 0) :
    Calls Try.prog 20 #[v, .int .i64 h] w fun e w' => e = .returned (.tuple #[v, .int .i64 (lookS n lv gn h).2]) ∧ Below w.heap.size w w' := by
  have HR := Lib.hid hr
  obtain ⟨a1, c1, a2, c2, a3, c3, rfl, k1, k2, k3⟩ := hr.val
  clear k1 k2 k3 hr
  have hb0 : Below w.heap.size w ((w.alloc (.cells #[.slice a1 n c1, .slice a2 n c2, .slice a3 fr.length c3, .int .i64 gens] 29)).alloc (.cells #[.slice none 0 0, .slice none 0 0, .slice none 0 0, .int .i64 0] 29)) := ((Below.refl _ _).alloc (Nat.le_refl _) _).alloc (by simp) _
  have X1 : ((w.alloc (.cells #[.slice a1 n c1, .slice a2 n c2, .slice a3 fr.length c3, .int .i64 gens] 29)).alloc (.cells #[.slice none 0 0, .slice none 0 0, .slice none 0 0, .int .i64 0] 29)).heap[w.heap.size + 1]? = some (.cells #[.slice none 0 0, .slice none 0 0, .slice none 0 0, .int .i64 0] 29 (0, 0)) := by
    have := blk_new (w.alloc (.cells #[.slice a1 n c1, .slice a2 n c2, .slice a3 fr.length c3, .int .i64 gens] 29)) (.cells #[.slice none 0 0, .slice none 0 0, .slice none 0 0, .int .i64 0] 29)
    simpa using this
  have X0 : ((w.alloc (.cells #[.slice a1 n c1, .slice a2 n c2, .slice a3 fr.length c3, .int .i64 gens] 29)).alloc (.cells #[.slice none 0 0, .slice none 0 0, .slice none 0 0, .int .i64 0] 29)).heap[w.heap.size]? = some (.cells #[.slice a1 n c1, .slice a2 n c2, .slice a3 fr.length c3, .int .i64 gens] 29 (0, 0)) := blk_alloc (blk_new _ _) _
  have HX0 := Lib.hid X0
  have HX1 := Lib.hid X1
  have HB0 := Lib.hid hb0
  obtain ⟨k, hk⟩ : ∃ k, k = lookS n lv gn h := ⟨_, rfl⟩
  obtain ⟨k1, k2⟩ := k
  have hk2 : k2 ≠ 0 := by rw [← hk] at hb; exact hb
  have e0 : (k2 == 0) = false := beq_eq_false_iff_ne.2 hk2
  rw [← hk]
  have HK := Lib.hid hk
  clear hb0 X0 X1 hk hb
  go_enter Try.func20, Try.ntmps20
  go_wp2_with fail
  refine (rlook_any B _ _ n gens gn lv fr h (HR.out.keep HB0.out)).mono ?_
  rw [← HK.out]
  rintro e w1 ⟨rfl, b1⟩
  have x0 := below_blk b1 HX0.out (by simp; omega)
  have x1 := below_blk b1 HX1.out (by simp)
  have HB1 := Lib.hid (HB0.out.trans (b1.mono HB0.out.size))
  have s0 := blk_cell x0 0
  have s1 := blk_cell x0 1
  have s2 := blk_cell x0 2
  have s3 := blk_cell x0 3
  have t0 := blk_cell x1 0
  have t1 := blk_cell x1 1
  have t2 := blk_cell x1 2
  have t3 := blk_cell x1 3
  have tf0 := blk_frozen x1 0
  have tf1 := blk_frozen x1 1
  have tf2 := blk_frozen x1 2
  have tf3 := blk_frozen x1 3
  have HY := Lib.hid x1
  clear x0 x1 b1
  go_wp2_with fail
  have hr := blk_set (blk_set (blk_set (blk_set HY.out 0 (.slice a1 n c1)) 1 (.slice a2 n c2)) 2 (.slice a3 fr.length c3)) 3 (.int .i64 gens)
  have r0 := blk_cell hr 0
  have r1 := blk_cell hr 1
  have r2 := blk_cell hr 2
  have r3 := blk_cell hr 3
  refine bodyPost_ret (v := .tuple #[.agg #[.slice a1 n c1, .slice a2 n c2, .slice a3 fr.length c3, .int .i64 gens], .int .i64 k2]) (by simp [results, Try.results20, go_sem, r0, r1, r2, r3]) rfl ⟨rfl, ?_⟩
  exact below_keep HB1.out (((((Keep.refl (fun i => i = w.heap.size + 1) w1).setCell (.inl rfl) _).setCell (.inl rfl) _).setCell (.inl rfl) _).setCell (.inl rfl) _) HB1.out.size (fun i hi => by omega)

set_option maxRecDepth 100000 in
set_option maxHeartbeats 4000000 in
theorem rgive_over (B : Nat → Prop) (w : World) (v : Value) (n : Nat) (gens : Int) (gn : Nat → Int) (lv : Nat → Bool) (fr : List Nat) (h : Int) (i : Nat) (hr : RT B w v n gens gn lv fr) (hBw : ∀ i, w.heap.size ≤ i → B i) (hi : i < n) (hn : n ≤ 4096) (hg : 1 ≤ gn i ∧ gn i ≤ 1023) (hfl : fr.length ≤ 4096) (hlook : lookS n lv gn h = ((i : Int), 0)) (hle : gens < gn i + 1) :
    Calls Try.prog 20 #[v, .int .i64 h] w fun e w' => ∃ v', e = .returned (.tuple #[v', .int .i64 0]) ∧ RT B w' v' n gens (upd gn i (gn i + 1)) (updB lv i false) (fr) ∧ Below w.heap.size w w' := by
  obtain ⟨i0, ei, ez0, ez1, ez2⟩ := info_parts Try.infoI
  have HR := Lib.hid hr
  obtain ⟨a1, c1, a2, c2, a3, c3, rfl, k1, k2, k3⟩ := hr.val
  have E1 := k1.elemS (icol_get gn n i hi)
  obtain ⟨b1, o1, rfl, hc1, hm1, x1⟩ := E1
  have K1 := Lib.hid k1
  have K2 := Lib.hid k2
  have K3 := Lib.hid k3
  obtain ⟨m, hm⟩ : ∃ m, m = fr.length := ⟨_, rfl⟩
  have Hml : Hid (fr.length = m) := Lib.hid hm.symm
  rw [← hm] at hfl K3 ⊢
  clear k1 k2 k3 hr hm
  have hb0 : Below w.heap.size w ((w.alloc (.cells #[.slice (some ⟨b1, o1, none⟩) n c1, .slice a2 n c2, .slice a3 m c3, .int .i64 gens] 29)).alloc (.cells #[.slice none 0 0, .slice none 0 0, .slice none 0 0, .int .i64 0] 29)) := ((Below.refl _ _).alloc (Nat.le_refl _) _).alloc (by simp) _
  have X0 : ((w.alloc (.cells #[.slice (some ⟨b1, o1, none⟩) n c1, .slice a2 n c2, .slice a3 m c3, .int .i64 gens] 29)).alloc (.cells #[.slice none 0 0, .slice none 0 0, .slice none 0 0, .int .i64 0] 29)).heap[w.heap.size]? = some (.cells #[.slice (some ⟨b1, o1, none⟩) n c1, .slice a2 n c2, .slice a3 m c3, .int .i64 gens] 29 (0, 0)) := blk_alloc (blk_new _ _) _
  have X1 : ((w.alloc (.cells #[.slice (some ⟨b1, o1, none⟩) n c1, .slice a2 n c2, .slice a3 m c3, .int .i64 gens] 29)).alloc (.cells #[.slice none 0 0, .slice none 0 0, .slice none 0 0, .int .i64 0] 29)).heap[w.heap.size + 1]? = some (.cells #[.slice none 0 0, .slice none 0 0, .slice none 0 0, .int .i64 0] 29 (0, 0)) := by
    have := blk_new (w.alloc (.cells #[.slice (some ⟨b1, o1, none⟩) n c1, .slice a2 n c2, .slice a3 m c3, .int .i64 gens] 29)) (.cells #[.slice none 0 0, .slice none 0 0, .slice none 0 0, .int .i64 0] 29)
    simpa using this
  have HBa := Lib.hid hb0
  have HXa := Lib.hid X0
  have HXb := Lib.hid X1
  obtain ⟨q, hq⟩ : ∃ q, q = gn i := ⟨_, rfl⟩
  have HX := Lib.hid x1
  rw [← hq] at HX hg hle ⊢
  have hwr : IntKind.i64.wrap (q + 1) = q + 1 := IntWalk.i64_in _ (by omega)
  have HL := Lib.hid hlook
  clear hb0 X0 X1 x1 hq hlook
  have HR' : Hid (RT B ((w.alloc (.cells #[.slice (some ⟨b1, o1, none⟩) n c1, .slice a2 n c2, .slice a3 m c3, .int .i64 gens] 29)).alloc (.cells #[.slice none 0 0, .slice none 0 0, .slice none 0 0, .int .i64 0] 29)) (.agg #[.slice (some ⟨b1, o1, none⟩) n c1, .slice a2 n c2, .slice a3 m c3, .int .i64 gens]) n gens gn lv fr) := Lib.hid (by have := HR.out.keep HBa.out; rw [Hml.out] at this; exact this)
  clear HR
  go_enter Try.func20, Try.ntmps20
  go_wp2_with fail
  refine (rlook_any B _ _ n gens gn lv fr h HR'.out).mono ?_
  rw [HL.out]
  rintro e W0 ⟨rfl, b0⟩
  have HX0 := Lib.hid (below_blk b0 HXa.out (by simp; omega))
  have HX1 := Lib.hid (below_blk b0 HXb.out (by simp))
  have HB0 := Lib.hid (HBa.out.trans (b0.mono HBa.out.size))
  have Hsz : Hid (w.heap.size + 2 ≤ W0.heap.size) := Lib.hid (by have := b0.size; simpa using this)
  have Y1 := Lib.hid (HX.out _ HB0.out)
  have y1 := Y1.out
  clear b0 HR'
  have HELD := Lib.hid (fun W (k : Below W0.heap.size W0 W) => held4 HX0.out Y1.out k)
  have z0 := blk_cell HX0.out 0
  have z1 := blk_cell HX0.out 1
  have z2 := blk_cell HX0.out 2
  have z3 := blk_cell HX0.out 3
  go_wp2_with fail
  go_region_held3 (fun W => Below W0.heap.size W0 W ∧ W.cell? ⟨w.heap.size, 0, none⟩ = some (.slice (some ⟨b1, o1, none⟩) n c1) ∧ W.cell? ⟨w.heap.size, 1, none⟩ = some (.slice a2 n c2) ∧ W.cell? ⟨w.heap.size, 2, none⟩ = some (.slice a3 m c3) ∧ W.cell? ⟨w.heap.size, 3, none⟩ = some (.int .i64 gens) ∧ W.cell? ⟨b1, o1 + i, none⟩ = some (.int .i64 q))
      (first
        | exact HELD.out _ (Below.refl _ _)
        | exact HELD.out _ (below_drew (Below.refl _ _))
        | exact HELD.out _ (below_drew ((Below.refl _ _).alloc (Nat.le_refl _) _))
        | exact HELD.out _ ((Below.refl _ _).alloc (Nat.le_refl _) _)
        | exact HELD.out _ b4'
        | exact HELD.out _ (b4'.alloc b4'.size _)
        | exact HELD.out _ (below1 (below1 (below1 (below1 b4' (Nat.le_refl _) b4'.size 0 _) (Nat.le_refl _) (by simp; exact b4'.size) 1 _) (Nat.le_refl _) (by simp; exact b4'.size) 2 _) (Nat.le_refl _) (by simp; exact b4'.size) 3 _))
      (first
        | (go_at_call 26; refine (with_any B B (W0.alloc (.cells #[.slice none 0 0, .slice none 0 0, .slice none 0 0, .int .i64 0] 29)).drew n m gens gn lv (some ⟨b1, o1, none⟩) a2 a3 c1 c2 c3 i (q + 1) false (K1.out.keep (HB0.out.trans ((below_drew ((Below.refl W0.heap.size W0).alloc (Nat.le_refl _) (.cells #[.slice none 0 0, .slice none 0 0, .slice none 0 0, .int .i64 0] 29))).mono HB0.out.size))) (K2.out.keep (HB0.out.trans ((below_drew ((Below.refl W0.heap.size W0).alloc (Nat.le_refl _) (.cells #[.slice none 0 0, .slice none 0 0, .slice none 0 0, .int .i64 0] 29))).mono HB0.out.size))) hi hn).mono ?_; rintro e w4 ⟨a4, c4, a5, c5, rfl, r4, r5, b4⟩; have R4 := Lib.hid (r4.mono (B' := fun i => W0.heap.size + 1 ≤ i) (fun i hi => by simpa using hi)); have R5 := Lib.hid (r5.mono (B' := fun i => W0.heap.size + 1 ≤ i) (fun i hi => by simpa using hi)); clear r4 r5; have hy := below_blk b4 (blk_drew (blk_new W0 _)) (by simp); have HY := Lib.hid hy; have hy0 := blk_cell hy 0; have hy1 := blk_cell hy 1; have hy2 := blk_cell hy 2; have hy3 := blk_cell hy 3; have hyf := blk_frozen hy 0; have hyg := blk_frozen hy 1; have hyh := blk_frozen hy 2; have hyi := blk_frozen hy 3; clear hy; have b4' : Below W0.heap.size W0 w4 := (below_drew ((Below.refl W0.heap.size W0).alloc (Nat.le_refl _) _)).trans (b4.mono (by simp)))
        | (go_at_call 26; refine (with_any B B W0.drew n m gens gn lv (some ⟨b1, o1, none⟩) a2 a3 c1 c2 c3 i (q + 1) false (K1.out.keep (HB0.out.trans ((below_drew (Below.refl W0.heap.size W0)).mono HB0.out.size))) (K2.out.keep (HB0.out.trans ((below_drew (Below.refl W0.heap.size W0)).mono HB0.out.size))) hi hn).mono ?_; rintro e w4 ⟨a4, c4, a5, c5, rfl, r4, r5, b4⟩; have R4 := Lib.hid r4; have R5 := Lib.hid r5; clear r4 r5; have b4' : Below W0.heap.size W0 w4 := (below_drew (Below.refl W0.heap.size W0)).trans (b4.mono (Nat.le_refl _))))
  all_goals
    rename_i hH
    first
      | (have bY : Below W0.heap.size W0 (w4.alloc (.cells #[.slice a4 n c4, .slice a5 n c5, .slice a3 m c3, .int .i64 gens] 29)) := hH.1; have hY := blk_new w4 (.cells #[.slice a4 n c4, .slice a5 n c5, .slice a3 m c3, .int .i64 gens] 29); have RG := Lib.hid (fun W' => ry_alloc (o := .cells #[.slice a4 n c4, .slice a5 n c5, .slice a3 m c3, .int .i64 gens] 29) (W' := W') R4.out); have RL := Lib.hid (fun W' => ry_alloc (o := .cells #[.slice a4 n c4, .slice a5 n c5, .slice a3 m c3, .int .i64 gens] 29) (W' := W') R5.out); have hgy : W0.heap.size ≤ w4.heap.size := b4'.size; clear hH; generalize w4.alloc (.cells #[.slice a4 n c4, .slice a5 n c5, .slice a3 m c3, .int .i64 gens] 29) = WY at bY hY RG RL ⊢; generalize w4.heap.size = gy at hY hgy RG RL ⊢)
      | (have F := fill4 (u0 := .slice a4 n c4) (u1 := .slice a5 n c5) (u2 := .slice a3 m c3) (u3 := .int .i64 gens) HY.out b4'; obtain ⟨bY, hY⟩ := F; have RG := Lib.hid (fun W' => ry_fill (u0 := .slice a4 n c4) (u1 := .slice a5 n c5) (u2 := .slice a3 m c3) (u3 := .int .i64 gens) (W' := W') R4.out); have RL := Lib.hid (fun W' => ry_fill (u0 := .slice a4 n c4) (u1 := .slice a5 n c5) (u2 := .slice a3 m c3) (u3 := .int .i64 gens) (W' := W') R5.out); clear hH; generalize ((((w4.setCell ⟨W0.heap.size, 0, none⟩ (.slice a4 n c4)).setCell ⟨W0.heap.size, 1, none⟩ (.slice a5 n c5)).setCell ⟨W0.heap.size, 2, none⟩ (.slice a3 m c3)).setCell ⟨W0.heap.size, 3, none⟩ (.int .i64 gens)) = WY at bY hY RG RL ⊢; generalize hgz : W0.heap.size = gy at hY RG RL ⊢; have hgy : W0.heap.size ≤ gy := Nat.le_of_eq hgz; clear hgz)
    have hsz := Hsz.out
    have hgyw : gy ≠ w.heap.size := by omega
    have hgyw1 : gy ≠ w.heap.size + 1 := by omega
    have x0 := below_blk bY HX0.out (by omega)
    have x1 := below_blk bY HX1.out (by omega)
    have bw : Below w.heap.size w WY := HB0.out.trans (bY.mono (by omega))
    have yY := HX.out _ bw
    have Hbw := Lib.hid bw
    have HY' := Lib.hid hY
    have HX1' := Lib.hid x1
    have HX0' := Lib.hid x0
    have p0 := blk_cell hY 0
    have p1 := blk_cell hY 1
    have p2 := blk_cell hY 2
    have p3 := blk_cell hY 3
    have pf := blk_frozen hY 2
    have s0 := blk_cell x0 0
    have s2 := blk_cell x0 2
    have s3 := blk_cell x0 3
    have t0 := blk_cell x1 0
    have t1 := blk_cell x1 1
    have t2 := blk_cell x1 2
    have t3 := blk_cell x1 3
    have tf0 := blk_frozen x1 0
    have tf1 := blk_frozen x1 1
    have tf2 := blk_frozen x1 2
    have tf3 := blk_frozen x1 3
    have hszY := bY.size
    have HbY := Lib.hid bY
    have hgyl : gy < WY.heap.size := blk_lt hY
    clear bw hY x0 x1 bY
    go_wp2_with fail
    go_quiet (fail)
    have yY' : (WY.drewN nq).cell? ⟨b1, o1 + i, none⟩ = some (.int .i64 q) := yY
    have HXZ : Hid ((WY.drewN nq).heap[w.heap.size + 1]? = some (.cells #[.slice none 0 0, .slice none 0 0, .slice none 0 0, .int .i64 0] 29 (0, 0))) := Lib.hid HX1'.out
    have HBZ := Lib.hid (below_keep Hbw.out ((Keep.refl (fun _ => False) WY).drewN nq) Hbw.out.size (fun i h => h.elim))
    have HKZ := Lib.hid ((Keep.refl (fun i => i = gy) WY).drewN nq)
    have HYZ : Hid ((WY.drewN nq).heap[gy]? = some (.cells #[.slice a4 n c4, .slice a5 n c5, .slice a3 m c3, .int .i64 gens] 29 (0, 0))) := Lib.hid HY'.out
    have hwz : WY.heap.size ≤ (WY.drewN nq).heap.size := Nat.le_refl _
    have HZ0 : Hid ((WY.drewN nq).heap[w.heap.size]? = some (.cells #[.slice (some ⟨b1, o1, none⟩) n c1, .slice a2 n c2, .slice a3 m c3, .int .i64 gens] 29 (0, 0))) := Lib.hid HX0'.out
    clear p0 p1 p2 p3 pf s0 s2 s3 t0 t1 t2 t3 tf0 tf1 tf2 tf3 yY yY' HY' HX1' HX0' Hbw
    generalize WY.drewN nq = WZ at HXZ HBZ HKZ HYZ HZ0 hwz ⊢
    have p0 := blk_cell HYZ.out 0
    have p1 := blk_cell HYZ.out 1
    have p2 := blk_cell HYZ.out 2
    have p3 := blk_cell HYZ.out 3
    have pf := blk_frozen HYZ.out 2
    have t0 := blk_cell HXZ.out 0
    have t1 := blk_cell HXZ.out 1
    have t2 := blk_cell HXZ.out 2
    have t3 := blk_cell HXZ.out 3
    have tf0 := blk_frozen HXZ.out 0
    have tf1 := blk_frozen HXZ.out 1
    have tf2 := blk_frozen HXZ.out 2
    have tf3 := blk_frozen HXZ.out 3
    go_wp2_with fail
    obtain ⟨W, hW⟩ : ∃ W, W = ((((WZ.setCell ⟨w.heap.size + 1, 0, none⟩ (.slice a4 n c4)).setCell ⟨w.heap.size + 1, 1, none⟩ (.slice a5 n c5)).setCell ⟨w.heap.size + 1, 2, none⟩ (.slice a3 m c3)).setCell ⟨w.heap.size + 1, 3, none⟩ (.int .i64 gens)) := ⟨_, rfl⟩
    rw [← hW]
    have KW : Keep (fun i => i = w.heap.size + 1) WZ W := by rw [hW]; exact ((((Keep.refl (fun i => i = w.heap.size + 1) WZ).setCell (.inl rfl) _).setCell (.inl rfl) _).setCell (.inl rfl) _).setCell (.inl rfl) _
    have hr : W.heap[w.heap.size + 1]? = some (.cells #[.slice a4 n c4, .slice a5 n c5, .slice a3 m c3, .int .i64 gens] 29 (0, 0)) := by
      rw [hW]
      have h := blk_set (blk_set (blk_set (blk_set (HXZ.out) 0 (.slice a4 n c4)) 1 (.slice a5 n c5)) 2 (.slice a3 m c3)) 3 (.int .i64 gens)
      simpa using h
    have hBZ := HBZ.out
    have hB : Below w.heap.size w W := below_keep hBZ KW hBZ.size (fun i hi => by omega)
    have vg := ((RG.out WZ HKZ.out).keepS KW (fun i hi h => by first | omega | (simp at hi; omega))).mono (B' := B) (fun i hi => hBw i (by first | omega | (simp at hi; omega)))
    have vl := ((RL.out WZ HKZ.out).keepS KW (fun i hi h => by first | omega | (simp at hi; omega))).mono (B' := B) (fun i hi => hBw i (by first | omega | (simp at hi; omega)))
    have r0 := blk_cell hr 0
    have r1 := blk_cell hr 1
    have r2 := blk_cell hr 2
    have r3 := blk_cell hr 3
    have vf := K3.out.keep hB
    exact bodyPost_ret (v := .tuple #[.agg #[.slice a4 n c4, .slice a5 n c5, .slice a3 m c3, .int .i64 gens], .int .i64 0]) (by simp [results, Try.results20, go_sem, r0, r1, r2, r3]) rfl ⟨_, rfl, ⟨_, _, _, rfl, vg, vl, vf⟩, hB⟩

set_option maxRecDepth 100000 in
set_option maxHeartbeats 4000000 in
theorem rgive_free (B : Nat → Prop) (w : World) (v : Value) (n : Nat) (gens : Int) (gn : Nat → Int) (lv : Nat → Bool) (fr : List Nat) (h : Int) (i : Nat) (hr : RT B w v n gens gn lv fr) (hBw : ∀ i, w.heap.size ≤ i → B i) (hi : i < n) (hn : n ≤ 4096) (hg : 1 ≤ gn i ∧ gn i ≤ 1023) (hfl : fr.length ≤ 4096) (hlook : lookS n lv gn h = ((i : Int), 0)) (hle : gn i + 1 ≤ gens) :
    Calls Try.prog 20 #[v, .int .i64 h] w fun e w' => ∃ v', e = .returned (.tuple #[v', .int .i64 0]) ∧ RT B w' v' n gens (upd gn i (gn i + 1)) (updB lv i false) (i :: fr) ∧ Below w.heap.size w w' := by
  obtain ⟨i0, ei, ez0, ez1, ez2⟩ := info_parts Try.infoI
  have HR := Lib.hid hr
  obtain ⟨a1, c1, a2, c2, a3, c3, rfl, k1, k2, k3⟩ := hr.val
  have E1 := k1.elemS (icol_get gn n i hi)
  obtain ⟨b1, o1, rfl, hc1, hm1, x1⟩ := E1
  have K1 := Lib.hid k1
  have K2 := Lib.hid k2
  have K3 := Lib.hid k3
  obtain ⟨m, hm⟩ : ∃ m, m = fr.length := ⟨_, rfl⟩
  have Hml : Hid (fr.length = m) := Lib.hid hm.symm
  rw [← hm] at hfl K3 ⊢
  clear k1 k2 k3 hr hm
  have hb0 : Below w.heap.size w ((w.alloc (.cells #[.slice (some ⟨b1, o1, none⟩) n c1, .slice a2 n c2, .slice a3 m c3, .int .i64 gens] 29)).alloc (.cells #[.slice none 0 0, .slice none 0 0, .slice none 0 0, .int .i64 0] 29)) := ((Below.refl _ _).alloc (Nat.le_refl _) _).alloc (by simp) _
  have X0 : ((w.alloc (.cells #[.slice (some ⟨b1, o1, none⟩) n c1, .slice a2 n c2, .slice a3 m c3, .int .i64 gens] 29)).alloc (.cells #[.slice none 0 0, .slice none 0 0, .slice none 0 0, .int .i64 0] 29)).heap[w.heap.size]? = some (.cells #[.slice (some ⟨b1, o1, none⟩) n c1, .slice a2 n c2, .slice a3 m c3, .int .i64 gens] 29 (0, 0)) := blk_alloc (blk_new _ _) _
  have X1 : ((w.alloc (.cells #[.slice (some ⟨b1, o1, none⟩) n c1, .slice a2 n c2, .slice a3 m c3, .int .i64 gens] 29)).alloc (.cells #[.slice none 0 0, .slice none 0 0, .slice none 0 0, .int .i64 0] 29)).heap[w.heap.size + 1]? = some (.cells #[.slice none 0 0, .slice none 0 0, .slice none 0 0, .int .i64 0] 29 (0, 0)) := by
    have := blk_new (w.alloc (.cells #[.slice (some ⟨b1, o1, none⟩) n c1, .slice a2 n c2, .slice a3 m c3, .int .i64 gens] 29)) (.cells #[.slice none 0 0, .slice none 0 0, .slice none 0 0, .int .i64 0] 29)
    simpa using this
  have HBa := Lib.hid hb0
  have HXa := Lib.hid X0
  have HXb := Lib.hid X1
  obtain ⟨q, hq⟩ : ∃ q, q = gn i := ⟨_, rfl⟩
  have HX := Lib.hid x1
  rw [← hq] at HX hg hle ⊢
  have hwr : IntKind.i64.wrap (q + 1) = q + 1 := IntWalk.i64_in _ (by omega)
  have HL := Lib.hid hlook
  clear hb0 X0 X1 x1 hq hlook
  have HR' : Hid (RT B ((w.alloc (.cells #[.slice (some ⟨b1, o1, none⟩) n c1, .slice a2 n c2, .slice a3 m c3, .int .i64 gens] 29)).alloc (.cells #[.slice none 0 0, .slice none 0 0, .slice none 0 0, .int .i64 0] 29)) (.agg #[.slice (some ⟨b1, o1, none⟩) n c1, .slice a2 n c2, .slice a3 m c3, .int .i64 gens]) n gens gn lv fr) := Lib.hid (by have := HR.out.keep HBa.out; rw [Hml.out] at this; exact this)
  clear HR
  go_enter Try.func20, Try.ntmps20
  go_wp2_with fail
  refine (rlook_any B _ _ n gens gn lv fr h HR'.out).mono ?_
  rw [HL.out]
  rintro e W0 ⟨rfl, b0⟩
  have HX0 := Lib.hid (below_blk b0 HXa.out (by simp; omega))
  have HX1 := Lib.hid (below_blk b0 HXb.out (by simp))
  have HB0 := Lib.hid (HBa.out.trans (b0.mono HBa.out.size))
  have Hsz : Hid (w.heap.size + 2 ≤ W0.heap.size) := Lib.hid (by have := b0.size; simpa using this)
  have Y1 := Lib.hid (HX.out _ HB0.out)
  have y1 := Y1.out
  clear b0 HR'
  have HELD := Lib.hid (fun W (k : Below W0.heap.size W0 W) => held4 HX0.out Y1.out k)
  have z0 := blk_cell HX0.out 0
  have z1 := blk_cell HX0.out 1
  have z2 := blk_cell HX0.out 2
  have z3 := blk_cell HX0.out 3
  go_wp2_with fail
  go_region_held3 (fun W => Below W0.heap.size W0 W ∧ W.cell? ⟨w.heap.size, 0, none⟩ = some (.slice (some ⟨b1, o1, none⟩) n c1) ∧ W.cell? ⟨w.heap.size, 1, none⟩ = some (.slice a2 n c2) ∧ W.cell? ⟨w.heap.size, 2, none⟩ = some (.slice a3 m c3) ∧ W.cell? ⟨w.heap.size, 3, none⟩ = some (.int .i64 gens) ∧ W.cell? ⟨b1, o1 + i, none⟩ = some (.int .i64 q))
      (first
        | exact HELD.out _ (Below.refl _ _)
        | exact HELD.out _ (below_drew (Below.refl _ _))
        | exact HELD.out _ (below_drew ((Below.refl _ _).alloc (Nat.le_refl _) _))
        | exact HELD.out _ ((Below.refl _ _).alloc (Nat.le_refl _) _)
        | exact HELD.out _ b4'
        | exact HELD.out _ (b4'.alloc b4'.size _)
        | exact HELD.out _ (below1 (below1 (below1 (below1 b4' (Nat.le_refl _) b4'.size 0 _) (Nat.le_refl _) (by simp; exact b4'.size) 1 _) (Nat.le_refl _) (by simp; exact b4'.size) 2 _) (Nat.le_refl _) (by simp; exact b4'.size) 3 _))
      (first
        | (go_at_call 26; refine (with_any B B (W0.alloc (.cells #[.slice none 0 0, .slice none 0 0, .slice none 0 0, .int .i64 0] 29)).drew n m gens gn lv (some ⟨b1, o1, none⟩) a2 a3 c1 c2 c3 i (q + 1) false (K1.out.keep (HB0.out.trans ((below_drew ((Below.refl W0.heap.size W0).alloc (Nat.le_refl _) (.cells #[.slice none 0 0, .slice none 0 0, .slice none 0 0, .int .i64 0] 29))).mono HB0.out.size))) (K2.out.keep (HB0.out.trans ((below_drew ((Below.refl W0.heap.size W0).alloc (Nat.le_refl _) (.cells #[.slice none 0 0, .slice none 0 0, .slice none 0 0, .int .i64 0] 29))).mono HB0.out.size))) hi hn).mono ?_; rintro e w4 ⟨a4, c4, a5, c5, rfl, r4, r5, b4⟩; have R4 := Lib.hid (r4.mono (B' := fun i => W0.heap.size + 1 ≤ i) (fun i hi => by simpa using hi)); have R5 := Lib.hid (r5.mono (B' := fun i => W0.heap.size + 1 ≤ i) (fun i hi => by simpa using hi)); clear r4 r5; have hy := below_blk b4 (blk_drew (blk_new W0 _)) (by simp); have HY := Lib.hid hy; have hy0 := blk_cell hy 0; have hy1 := blk_cell hy 1; have hy2 := blk_cell hy 2; have hy3 := blk_cell hy 3; have hyf := blk_frozen hy 0; have hyg := blk_frozen hy 1; have hyh := blk_frozen hy 2; have hyi := blk_frozen hy 3; clear hy; have b4' : Below W0.heap.size W0 w4 := (below_drew ((Below.refl W0.heap.size W0).alloc (Nat.le_refl _) _)).trans (b4.mono (by simp)))
        | (go_at_call 26; refine (with_any B B W0.drew n m gens gn lv (some ⟨b1, o1, none⟩) a2 a3 c1 c2 c3 i (q + 1) false (K1.out.keep (HB0.out.trans ((below_drew (Below.refl W0.heap.size W0)).mono HB0.out.size))) (K2.out.keep (HB0.out.trans ((below_drew (Below.refl W0.heap.size W0)).mono HB0.out.size))) hi hn).mono ?_; rintro e w4 ⟨a4, c4, a5, c5, rfl, r4, r5, b4⟩; have R4 := Lib.hid r4; have R5 := Lib.hid r5; clear r4 r5; have b4' : Below W0.heap.size W0 w4 := (below_drew (Below.refl W0.heap.size W0)).trans (b4.mono (Nat.le_refl _))))
  all_goals
    rename_i hH
    first
      | (have bY : Below W0.heap.size W0 (w4.alloc (.cells #[.slice a4 n c4, .slice a5 n c5, .slice a3 m c3, .int .i64 gens] 29)) := hH.1; have hY := blk_new w4 (.cells #[.slice a4 n c4, .slice a5 n c5, .slice a3 m c3, .int .i64 gens] 29); have RG := Lib.hid (fun W' => ry_alloc (o := .cells #[.slice a4 n c4, .slice a5 n c5, .slice a3 m c3, .int .i64 gens] 29) (W' := W') R4.out); have RL := Lib.hid (fun W' => ry_alloc (o := .cells #[.slice a4 n c4, .slice a5 n c5, .slice a3 m c3, .int .i64 gens] 29) (W' := W') R5.out); have hgy : W0.heap.size ≤ w4.heap.size := b4'.size; clear hH; generalize w4.alloc (.cells #[.slice a4 n c4, .slice a5 n c5, .slice a3 m c3, .int .i64 gens] 29) = WY at bY hY RG RL ⊢; generalize w4.heap.size = gy at hY hgy RG RL ⊢)
      | (have F := fill4 (u0 := .slice a4 n c4) (u1 := .slice a5 n c5) (u2 := .slice a3 m c3) (u3 := .int .i64 gens) HY.out b4'; obtain ⟨bY, hY⟩ := F; have RG := Lib.hid (fun W' => ry_fill (u0 := .slice a4 n c4) (u1 := .slice a5 n c5) (u2 := .slice a3 m c3) (u3 := .int .i64 gens) (W' := W') R4.out); have RL := Lib.hid (fun W' => ry_fill (u0 := .slice a4 n c4) (u1 := .slice a5 n c5) (u2 := .slice a3 m c3) (u3 := .int .i64 gens) (W' := W') R5.out); clear hH; generalize ((((w4.setCell ⟨W0.heap.size, 0, none⟩ (.slice a4 n c4)).setCell ⟨W0.heap.size, 1, none⟩ (.slice a5 n c5)).setCell ⟨W0.heap.size, 2, none⟩ (.slice a3 m c3)).setCell ⟨W0.heap.size, 3, none⟩ (.int .i64 gens)) = WY at bY hY RG RL ⊢; generalize hgz : W0.heap.size = gy at hY RG RL ⊢; have hgy : W0.heap.size ≤ gy := Nat.le_of_eq hgz; clear hgz)
    have hsz := Hsz.out
    have hgyw : gy ≠ w.heap.size := by omega
    have hgyw1 : gy ≠ w.heap.size + 1 := by omega
    have x0 := below_blk bY HX0.out (by omega)
    have x1 := below_blk bY HX1.out (by omega)
    have bw : Below w.heap.size w WY := HB0.out.trans (bY.mono (by omega))
    have yY := HX.out _ bw
    have Hbw := Lib.hid bw
    have HY' := Lib.hid hY
    have HX1' := Lib.hid x1
    have HX0' := Lib.hid x0
    have p0 := blk_cell hY 0
    have p1 := blk_cell hY 1
    have p2 := blk_cell hY 2
    have p3 := blk_cell hY 3
    have pf := blk_frozen hY 2
    have s0 := blk_cell x0 0
    have s2 := blk_cell x0 2
    have s3 := blk_cell x0 3
    have t0 := blk_cell x1 0
    have t1 := blk_cell x1 1
    have t2 := blk_cell x1 2
    have t3 := blk_cell x1 3
    have tf0 := blk_frozen x1 0
    have tf1 := blk_frozen x1 1
    have tf2 := blk_frozen x1 2
    have tf3 := blk_frozen x1 3
    have hszY := bY.size
    have HbY := Lib.hid bY
    have hgyl : gy < WY.heap.size := blk_lt hY
    clear bw hY x0 x1 bY
    go_wp2_with fail
    go_quiet (fail)
    have yY' : (WY.drewN nq).cell? ⟨b1, o1 + i, none⟩ = some (.int .i64 q) := yY
    have HXZ : Hid ((WY.drewN nq).heap[w.heap.size + 1]? = some (.cells #[.slice none 0 0, .slice none 0 0, .slice none 0 0, .int .i64 0] 29 (0, 0))) := Lib.hid HX1'.out
    have HBZ := Lib.hid (below_keep Hbw.out ((Keep.refl (fun _ => False) WY).drewN nq) Hbw.out.size (fun i h => h.elim))
    have HKZ := Lib.hid ((Keep.refl (fun i => i = gy) WY).drewN nq)
    have HYZ : Hid ((WY.drewN nq).heap[gy]? = some (.cells #[.slice a4 n c4, .slice a5 n c5, .slice a3 m c3, .int .i64 gens] 29 (0, 0))) := Lib.hid HY'.out
    have hwz : WY.heap.size ≤ (WY.drewN nq).heap.size := Nat.le_refl _
    have HZ0 : Hid ((WY.drewN nq).heap[w.heap.size]? = some (.cells #[.slice (some ⟨b1, o1, none⟩) n c1, .slice a2 n c2, .slice a3 m c3, .int .i64 gens] 29 (0, 0))) := Lib.hid HX0'.out
    clear p0 p1 p2 p3 pf s0 s2 s3 t0 t1 t2 t3 tf0 tf1 tf2 tf3 yY yY' HY' HX1' HX0' Hbw
    generalize WY.drewN nq = WZ at HXZ HBZ HKZ HYZ HZ0 hwz ⊢
    have HoE := Lib.hid (own_oneV WZ WZ.heap.size 3 (.int .i64 (i : Int)) (Nat.le_refl _))
    have Rv : Hid (ReadV (WZ.alloc (.cells #[.int .i64 (i : Int)] 3)) (.slice a3 m c3) m (ilist fr)) := Lib.hid (by have := vv_readV (K3.out.keep (HBZ.out.alloc HBZ.out.size (.cells #[.int .i64 (i : Int)] 3))); rw [ilist_len, Hml.out] at this; exact this)
    have hzz := HBZ.out.size
    have s2a := blk_cell (blk_alloc HZ0.out (.cells #[.int .i64 (i : Int)] 3)) 2
    go_wp2_with (at_builtin; go_loud ((refine wpList_append_list _ rfl (.tmp 38) (.tmp 40) 26 rfl WZ.heap.size 3 i0 (.int .i64 0) 1 8 Try.underlying26 ei ez0 ez1 ez2 rfl (by decide) _ _ _ rfl HoE.out m (ilist fr) Rv.out (by rw [ilist_len, Hml.out]; omega) (one_ilist _) (by unfold maxLen; omega) (by omega) (by simp) ?_); (intro v6 w6 o6 hg6); (have xr := grow_blk (g := WZ.heap.size) hg6 (blk_alloc HXZ.out (.cells #[.int .i64 (i : Int)] 3)) (by omega)); (have xy := grow_blk (g := WZ.heap.size) hg6 (blk_alloc HYZ.out (.cells #[.int .i64 (i : Int)] 3)) (by omega)); (have KZ6 := Lib.hid (grow_keep (g := WZ.heap.size) (HKZ.out.alloc (.cells #[.int .i64 (i : Int)] 3)) hg6 (by omega))); (have B6 := Lib.hid (grow_below (g := WZ.heap.size) hg6 (HBZ.out.alloc HBZ.out.size (.cells #[.int .i64 (i : Int)] 3)) hzz (by simp; omega))); (have C6 := own_headV o6 (by omega)); (obtain ⟨g, cap, rfl, hg1, hg2, hcap, hcapm, hcells, hfz⟩ := C6); (have O6 := Lib.hid o6); (have HX6 := Lib.hid xr); (have HY6 := Lib.hid xy); (have gyne : gy ≠ g := by omega); (have q0 := blk_cell xy 0); (have q1 := blk_cell xy 1); (have q3 := blk_cell xy 3); (have q2 := blk_cell xy 2); (have qf := blk_frozen xy 2); (have t0 := blk_cell xr 0); (clear s2a); (have t1 := blk_cell xr 1); (have t2 := blk_cell xr 2); (have t3 := blk_cell xr 3); (have tf0 := blk_frozen xr 0); (have tf1 := blk_frozen xr 1); (have tf2 := blk_frozen xr 2); (have tf3 := blk_frozen xr 3); clear hcells hfz o6 hg6 xr xy))
    have HXW := Lib.hid (blk_far (p := ⟨gy, 2, none⟩) HX6.out (fun h => hgyw1 h.symm) (.slice (some ⟨g, 0, none⟩) (1 + m) cap))
    have HKW := Lib.hid (KZ6.out.setCell (p := ⟨gy, 2, none⟩) (.inl rfl) (.slice (some ⟨g, 0, none⟩) (1 + m) cap))
    have HBW := Lib.hid (below1 B6.out (g := gy) (by omega) B6.out.size 2 (.slice (some ⟨g, 0, none⟩) (1 + m) cap))
    have HOW := Lib.hid (own_keep O6.out ((Keep.refl (fun i => i = gy) w6).setCell (p := ⟨gy, 2, none⟩) (.inl rfl) (.slice (some ⟨g, 0, none⟩) (1 + m) cap)) (fun k hk h => by have := Option.some.inj (by simpa [Value.ownBlock] using hk : some g = some k); omega))
    clear HXZ HBZ HKZ HYZ HoE Rv
    clear B6 KZ6 HX6
    have HXZ := HXW
    have HKZ := HKW
    have HBZ := HBW
    clear HXW HKW HBW
    generalize w6.setCell ⟨gy, 2, none⟩ (.slice (some ⟨g, 0, none⟩) (1 + m) cap) = WZ2 at HXZ HKZ HBZ HOW ⊢
    obtain ⟨W, hW⟩ : ∃ W, W = ((((WZ2.setCell ⟨w.heap.size + 1, 0, none⟩ (.slice a4 n c4)).setCell ⟨w.heap.size + 1, 1, none⟩ (.slice a5 n c5)).setCell ⟨w.heap.size + 1, 2, none⟩ (.slice (some ⟨g, 0, none⟩) (1 + m) cap)).setCell ⟨w.heap.size + 1, 3, none⟩ (.int .i64 gens)) := ⟨_, rfl⟩
    rw [← hW]
    have KW : Keep (fun i => i = w.heap.size + 1) WZ2 W := by rw [hW]; exact ((((Keep.refl (fun i => i = w.heap.size + 1) WZ2).setCell (.inl rfl) _).setCell (.inl rfl) _).setCell (.inl rfl) _).setCell (.inl rfl) _
    have hr : W.heap[w.heap.size + 1]? = some (.cells #[.slice a4 n c4, .slice a5 n c5, .slice (some ⟨g, 0, none⟩) (1 + m) cap, .int .i64 gens] 29 (0, 0)) := by
      rw [hW]
      have h := blk_set (blk_set (blk_set (blk_set (HXZ.out) 0 (.slice a4 n c4)) 1 (.slice a5 n c5)) 2 (.slice (some ⟨g, 0, none⟩) (1 + m) cap)) 3 (.int .i64 gens)
      simpa using h
    have hBZ := HBZ.out
    have hB : Below w.heap.size w W := below_keep hBZ KW hBZ.size (fun i hi => by omega)
    have vg := ((RG.out WZ2 HKZ.out).keepS KW (fun i hi h => by first | omega | (simp at hi; omega))).mono (B' := B) (fun i hi => hBw i (by first | omega | (simp at hi; omega)))
    have vl := ((RL.out WZ2 HKZ.out).keepS KW (fun i hi h => by first | omega | (simp at hi; omega))).mono (B' := B) (fun i hi => hBw i (by first | omega | (simp at hi; omega)))
    have r0 := blk_cell hr 0
    have r1 := blk_cell hr 1
    have r2 := blk_cell hr 2
    have r3 := blk_cell hr 3
    have og := own_keep HOW.out KW (fun k hk h => by have := Option.some.inj (by simpa [Value.ownBlock] using hk : some g = some k); omega)
    have vf := vv_of_own (B := B) og (fun i hi => hBw i (by omega))
    rw [ilist_cons] at vf
    exact bodyPost_ret (v := .tuple #[.agg #[.slice a4 n c4, .slice a5 n c5, .slice (some ⟨g, 0, none⟩) (1 + m) cap, .int .i64 gens], .int .i64 0]) (by simp [results, Try.results20, go_sem, r0, r1, r2, r3]) rfl ⟨_, rfl, ⟨_, _, _, rfl, vg, vl, vf⟩, hB⟩
end Go.Proofs.Ytkbifnbblimnlaa
