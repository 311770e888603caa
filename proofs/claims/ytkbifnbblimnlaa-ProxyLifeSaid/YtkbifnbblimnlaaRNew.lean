/- The contracts of the reference's table: New. -/
import Derived.Test.YtkbifnbblimnlaaVV
namespace Go.Proofs.Ytkbifnbblimnlaa
open Go.RowKit
set_option linter.unusedVariables false
attribute [local go_sem] Oper.semAt_some

theorem Try.infoB : (Try.prog.info? 4).map (fun i => (i.zero, i.size, i.bytes)) = some (some (.bool false), 1, 1) := by kernel_rfl
def icol (f : Nat → Int) (n : Nat) : List Value := col (fun i => .int .i64 (f i)) n
def bcol (f : Nat → Bool) (n : Nat) : List Value := col (fun i => .bool (f i)) n
def ilist (l : List Nat) : List Value := l.map fun i : Nat => .int .i64 (i : Int)
theorem icol_len (f n) : (icol f n).length = n := col_len _ _
theorem bcol_len (f n) : (bcol f n).length = n := col_len _ _
theorem ilist_len (l) : (ilist l).length = l.length := by simp [ilist]
theorem ilist_range (n : Nat) : ilist (List.range n) = icol (fun i => (i : Int)) n := rfl
theorem one_i (x : Int) : ∀ u ∈ [Value.int .i64 x], u.oneCell' = true := by intro u hu; simp only [List.mem_singleton] at hu; subst hu; rfl
theorem one_b (x : Bool) : ∀ u ∈ [Value.bool x], u.oneCell' = true := by intro u hu; simp only [List.mem_singleton] at hu; subst hu; rfl
theorem one_icol (f : Nat → Int) (n : Nat) : ∀ u ∈ icol f n, u.oneCell' = true := by
  intro u hu
  simp only [icol, col, List.mem_map] at hu
  obtain ⟨x, _, rfl⟩ := hu
  rfl
theorem one_bcol (f : Nat → Bool) (n : Nat) : ∀ u ∈ bcol f n, u.oneCell' = true := by
  intro u hu
  simp only [bcol, col, List.mem_map] at hu
  obtain ⟨x, _, rfl⟩ := hu
  rfl
theorem one_ilist (l : List Nat) : ∀ u ∈ ilist l, u.oneCell' = true := by
  intro u hu
  simp only [ilist, List.mem_map] at hu
  obtain ⟨x, _, rfl⟩ := hu
  rfl

/-- the reference's table -/
def RT (B : Nat → Prop) (w : World) (v : Value) (n : Nat) (gens : Int) (gn : Nat → Int) (lv : Nat → Bool) (fr : List Nat) : Prop :=
  ∃ vg vl vf, v = .agg #[vg, vl, vf, .int .i64 gens] ∧ VV B w vg (icol gn n) ∧ VV B w vl (bcol lv n) ∧ VV B w vf (ilist fr)
theorem RT.keepS {S : Nat → Prop} {B : Nat → Prop} {w w' : World} {v : Value} {n : Nat} {gens : Int} {gn : Nat → Int} {lv : Nat → Bool} {fr : List Nat} (h : RT B w v n gens gn lv fr) (k : Keep S w w') (hS : ∀ i, B i → ¬ S i) : RT B w' v n gens gn lv fr := by
  obtain ⟨vg, vl, vf, e, h1, h2, h3⟩ := h
  exact ⟨vg, vl, vf, e, h1.keepS k hS, h2.keepS k hS, h3.keepS k hS⟩
theorem RT.keep {B : Nat → Prop} {w w' : World} {v : Value} {n : Nat} {gens : Int} {gn : Nat → Int} {lv : Nat → Bool} {fr : List Nat} (h : RT B w v n gens gn lv fr) (k : Below w.heap.size w w') : RT B w' v n gens gn lv fr :=
  h.keepS (Keep.of_below k) (fun _ _ h => h)
theorem RT.mono {B B' : Nat → Prop} {w : World} {v : Value} {n : Nat} {gens : Int} {gn : Nat → Int} {lv : Nat → Bool} {fr : List Nat} (h : RT B w v n gens gn lv fr) (hB : ∀ i, B i → B' i) : RT B' w v n gens gn lv fr := by
  obtain ⟨vg, vl, vf, e, h1, h2, h3⟩ := h
  exact ⟨vg, vl, vf, e, h1.mono hB, h2.mono hB, h3.mono hB⟩
theorem RT.lt {B : Nat → Prop} {w : World} {v : Value} {n : Nat} {gens : Int} {gn : Nat → Int} {lv : Nat → Bool} {fr : List Nat} (h : RT B w v n gens gn lv fr) : RT (fun i => B i ∧ i < w.heap.size) w v n gens gn lv fr := by
  obtain ⟨vg, vl, vf, e, h1, h2, h3⟩ := h
  exact ⟨vg, vl, vf, e, h1.lt, h2.lt, h3.lt⟩
/-- the reference's value: three slices and a number -/
theorem RT.val {B : Nat → Prop} {w : World} {v : Value} {n : Nat} {gens : Int} {gn : Nat → Int} {lv : Nat → Bool} {fr : List Nat} (h : RT B w v n gens gn lv fr) :
    ∃ a1 c1 a2 c2 a3 c3, v = .agg #[.slice a1 n c1, .slice a2 n c2, .slice a3 fr.length c3, .int .i64 gens] ∧ VV B w (.slice a1 n c1) (icol gn n) ∧ VV B w (.slice a2 n c2) (bcol lv n) ∧ VV B w (.slice a3 fr.length c3) (ilist fr) := by
  obtain ⟨vg, vl, vf, rfl, h1, h2, h3⟩ := h
  have H1 := h1
  have H2 := h2
  have H3 := h3
  obtain ⟨a1, c1, rfl, _⟩ := h1.slice
  obtain ⟨a2, c2, rfl, _⟩ := h2.slice
  obtain ⟨a3, c3, rfl, _⟩ := h3.slice
  simp only [icol_len, bcol_len, ilist_len] at *
  exact ⟨a1, c1, a2, c2, a3, c3, rfl, H1, H2, H3⟩

abbrev z29 : Value := .agg #[.slice none 0 0, .slice none 0 0, .slice none 0 0, .int .i64 0]
theorem rnew_bad (w : World) (n g : Int) (h : n < 1 ∨ 4096 < n ∨ g < 1 ∨ 1023 < g) : Calls Try.prog 16 #[.int .i64 n, .int .i64 g] w fun e w' => e = .returned (.tuple #[z29, .int .i64 1]) ∧ Below w.heap.size w w' := by
  have hb : Below w.heap.size w ((w.alloc (.cells #[.slice none 0 0, .slice none 0 0, .slice none 0 0, .int .i64 0] 29)).alloc (.cells #[.slice none 0 0, .slice none 0 0, .slice none 0 0, .int .i64 g] 29)) := ((Below.refl _ _).alloc (Nat.le_refl _) _).alloc (by simp) _
  by_cases h1 : n < 1
  · clear h
    go_enter Try.func16, Try.ntmps16
    go_wp2_with fail
    exact bodyPost_ret (v := .tuple #[z29, .int .i64 1]) (by simp [results, Try.results16, go_sem]) rfl ⟨rfl, hb⟩
  by_cases h2 : 4096 < n
  · clear h
    go_enter Try.func16, Try.ntmps16
    go_wp2_with fail
    exact bodyPost_ret (v := .tuple #[z29, .int .i64 1]) (by simp [results, Try.results16, go_sem]) rfl ⟨rfl, hb⟩
  by_cases h3 : g < 1
  · clear h
    go_enter Try.func16, Try.ntmps16
    go_wp2_with fail
    exact bodyPost_ret (v := .tuple #[z29, .int .i64 1]) (by simp [results, Try.results16, go_sem]) rfl ⟨rfl, hb⟩
  have h4 : 1023 < g := by omega
  clear h
  go_enter Try.func16, Try.ntmps16
  go_wp2_with fail
  exact bodyPost_ret (v := .tuple #[z29, .int .i64 1]) (by simp [results, Try.results16, go_sem]) rfl ⟨rfl, hb⟩

/-- while it is made -/
structure B3 (W : World) (g0 base na nb nc : Nat) (va vb vc : Value) (most : Int) (xs ys zs : List Value) : Prop where
  box : W.heap[g0]? = some (.cells #[va, vb, vc, .int .i64 most] 29 (0, 0))
  oa : W.ownsRow base 3 1 va na xs
  ob : W.ownsRow base 4 1 vb nb ys
  oc : W.ownsRow base 3 1 vc nc zs
  ab : Apart va vb
  ac : Apart va vc
  bc : Apart vb vc
  lt : g0 < base
theorem B3.a {W w2 : World} {g0 base na nb nc m : Nat} {va vb vc v' : Value} {most : Int} {xs ys zs us : List Value} {tmp : Obj} (h : B3 W g0 base na nb nc va vb vc most xs ys zs)
    (hgrow : (W.alloc tmp).grownBy w2 va.ownBlock) (hown : w2.ownsRow base 3 1 v' m us) (hat : v'.ownBlock = va.ownBlock ∨ v'.ownBlock = some (W.alloc tmp).heap.size) :
    w2.heap[g0]? = some (.cells #[va, vb, vc, .int .i64 most] 29 (0, 0)) ∧ B3 (w2.setCell ⟨g0, 0, none⟩ v') g0 base m nb nc v' vb vc most us ys zs ∧ Keep (fun i => g0 ≤ i) W (w2.setCell ⟨g0, 0, none⟩ v') := by
  obtain ⟨e1, e2, e3, e4, e5, e6, e7, e8⟩ := box_grow 0 h.box h.oa h.ob h.oc h.lt h.ab h.ac hgrow hown hat
  exact ⟨e1, ⟨by simpa using e2, e3, e4, e5, e6, e7, h.bc, h.lt⟩, e8.mono (fun i hi => .inl (by rcases hi with rfl | hi; exact Nat.le_refl _; have := (h.oa.lt i hi).1; have := h.lt; omega))⟩
theorem B3.b {W w2 : World} {g0 base na nb nc m : Nat} {va vb vc v' : Value} {most : Int} {xs ys zs us : List Value} {tmp : Obj} (h : B3 W g0 base na nb nc va vb vc most xs ys zs)
    (hgrow : (W.alloc tmp).grownBy w2 vb.ownBlock) (hown : w2.ownsRow base 4 1 v' m us) (hat : v'.ownBlock = vb.ownBlock ∨ v'.ownBlock = some (W.alloc tmp).heap.size) :
    w2.heap[g0]? = some (.cells #[va, vb, vc, .int .i64 most] 29 (0, 0)) ∧ B3 (w2.setCell ⟨g0, 1, none⟩ v') g0 base na m nc va v' vc most xs us zs ∧ Keep (fun i => g0 ≤ i) W (w2.setCell ⟨g0, 1, none⟩ v') := by
  obtain ⟨e1, e2, e3, e4, e5, e6, e7, e8⟩ := box_grow 1 h.box h.ob h.oa h.oc h.lt h.ab.symm h.bc hgrow hown hat
  exact ⟨e1, ⟨by simpa using e2, e4, e3, e5, e6.symm, h.ac, e7, h.lt⟩, e8.mono (fun i hi => .inl (by rcases hi with rfl | hi; exact Nat.le_refl _; have := (h.ob.lt i hi).1; have := h.lt; omega))⟩
theorem B3.c {W w2 : World} {g0 base na nb nc m : Nat} {va vb vc v' : Value} {most : Int} {xs ys zs us : List Value} {tmp : Obj} (h : B3 W g0 base na nb nc va vb vc most xs ys zs)
    (hgrow : (W.alloc tmp).grownBy w2 vc.ownBlock) (hown : w2.ownsRow base 3 1 v' m us) (hat : v'.ownBlock = vc.ownBlock ∨ v'.ownBlock = some (W.alloc tmp).heap.size) :
    w2.heap[g0]? = some (.cells #[va, vb, vc, .int .i64 most] 29 (0, 0)) ∧ B3 (w2.setCell ⟨g0, 2, none⟩ v') g0 base na nb m va vb v' most xs ys us ∧ Keep (fun i => g0 ≤ i) W (w2.setCell ⟨g0, 2, none⟩ v') := by
  obtain ⟨e1, e2, e3, e4, e5, e6, e7, e8⟩ := box_grow 2 h.box h.oc h.oa h.ob h.lt h.ac.symm h.bc.symm hgrow hown hat
  exact ⟨e1, ⟨by simpa using e2, e4, e5, e3, h.ab, e6.symm, e7.symm, h.lt⟩, e8.mono (fun i hi => .inl (by rcases hi with rfl | hi; exact Nat.le_refl _; have := (h.oc.lt i hi).1; have := h.lt; omega))⟩

set_option maxHeartbeats 4000000 in
theorem rnew_any (w : World) (n : Nat) (g : Int) (h1 : 1 ≤ n) (h2 : n ≤ 4096) (h3 : 1 ≤ g) (h4 : g ≤ 1023) : Calls Try.prog 16 #[.int .i64 n, .int .i64 g] w fun e w' => ∃ v, e = .returned (.tuple #[v, .int .i64 0]) ∧ RT (fun i => w.heap.size ≤ i) w' v n g (fun _ => 1) (fun _ => false) (List.range n) ∧ Below w.heap.size w w' := by
  obtain ⟨i0, ei, ez0, ez1, ez2⟩ := info_parts Try.infoI
  obtain ⟨j0, fi, fz0, fz1, fz2⟩ := info_parts Try.infoB
  go_enter Try.func16, Try.ntmps16
  go_wp2_with fail
  go_loopw [7] (fun v wr => ∃ (k : Nat) (va vb vc : Value), v = .int .i64 k ∧ k ≤ n ∧ B3 wr (w.heap.size + 1) (w.heap.size + 2) k k k va vb vc g (icol (fun _ => 1) k) (bcol (fun _ => false) k) (icol (fun i => (i : Int)) k) ∧ wr.heap[w.heap.size]? = some (.cells #[.slice none 0 0, .slice none 0 0, .slice none 0 0, .int .i64 0] 29 (0, 0)) ∧ Below w.heap.size w wr ∧ w.heap.size + 2 ≤ wr.heap.size) (fun v _ => n - (intOf v).toNat)
  case atStart =>
    refine ⟨0, _, _, _, rfl, Nat.zero_le _, ⟨?_, World.ownsRow_nil _ _ _ _, World.ownsRow_nil _ _ _ _, World.ownsRow_nil _ _ _ _, apart_nil _, apart_nil _, apart_nil _, by omega⟩, blk_alloc (blk_new _ _) _, ((Below.refl _ _).alloc (Nat.le_refl _) _).alloc (by simp) _, by simp⟩
    have := blk_new (w.alloc (.cells #[.slice none 0 0, .slice none 0 0, .slice none 0 0, .int .i64 0] 29)) (.cells #[.slice none 0 0, .slice none 0 0, .slice none 0 0, .int .i64 g] 29)
    simpa using this
  case round =>
    obtain ⟨k, va, vb, vc, rfl, hk, hb, hz, br, hsz⟩ := hrel
    have ca := blk_cell hb.box 0
    have cb := blk_cell hb.box 1
    have cc := blk_cell hb.box 2
    by_cases hlt : k < n
    · have Hb := Lib.hid hb
      have hnews1 := Lib.hid (new_cells wr [Value.int .i64 1] 3)
      clear hb
      go_wp2_with (first
        | (at_builtin; refine wpList_append_own_at _ rfl (.tmp 31) (.tmp 32) 26 rfl (w.heap.size + 2) 3 i0 (.int .i64 0) 1 8 Try.underlying26 ei ez0 ez1 ez2 rfl (by decide) _ _ _ rfl (Hb.out.oa.alloc _) ⟨wr.heap.size, 0, none⟩ 1 1 _ rfl rfl hnews1.out (one_i 1) (by unfold maxLen; omega) (by omega) (by simp; omega) ?_; intro va' w2 oa2 hgr2 _ hat2; have E := Hb.out.a hgr2 oa2 hat2; obtain ⟨e1, e2, e3⟩ := E; have F := own_succ oa2; obtain ⟨ga, cpa, rfl⟩ := F; have f0 := blk_frozen e1 0; have d0 := blk_cell e1 0; have cb2 := blk_cell e2.box 1; have Hb2 := Lib.hid e2; have He3 := Lib.hid e3; have hsz2 := e3.size; clear e1 e2 e3 oa2 hgr2; have hnews2 := Lib.hid (new_cells_set w2 ⟨w.heap.size + 1, 0, none⟩ (.slice (some ⟨ga, 0, none⟩) (k + 1) cpa) [Value.bool false] 4))
        | (at_builtin; refine wpList_append_own_at _ rfl (.tmp 36) (.tmp 37) 27 rfl (w.heap.size + 2) 4 j0 (.bool false) 1 1 Try.underlying27 fi fz0 fz1 fz2 rfl (by decide) _ _ _ rfl (Hb2.out.ob.alloc _) ⟨w2.heap.size, 0, none⟩ 1 1 _ rfl rfl hnews2.out (one_b false) (by unfold maxLen; omega) (by omega) (by simp at hsz2 ⊢; omega) ?_; intro vb' w3 ob3 hgr3 _ hat3; have E := Hb2.out.b hgr3 ob3 hat3; obtain ⟨e1, e2, e3⟩ := E; have F := own_succ ob3; obtain ⟨gb, cpb, rfl⟩ := F; have f1 := blk_frozen e1 1; have d1 := blk_cell e1 1; have cc3 := blk_cell e2.box 2; have Hb3 := Lib.hid e2; have Hf3 := Lib.hid (He3.out.then e3 (fun i hi => .inl hi)); have hsz3 := e3.size; clear e1 e2 e3 ob3 hgr3; have hnews3 := Lib.hid (new_cells_set w3 ⟨w.heap.size + 1, 1, none⟩ (.slice (some ⟨gb, 0, none⟩) (k + 1) cpb) [Value.int .i64 k] 3))
        | (at_builtin; refine wpList_append_own_at _ rfl (.tmp 41) (.tmp 43) 26 rfl (w.heap.size + 2) 3 i0 (.int .i64 0) 1 8 Try.underlying26 ei ez0 ez1 ez2 rfl (by decide) _ _ _ rfl (Hb3.out.oc.alloc _) ⟨w3.heap.size, 0, none⟩ 1 1 _ rfl rfl hnews3.out (one_i k) (by unfold maxLen; omega) (by omega) (by simp at hsz2 hsz3 ⊢; omega) ?_; intro vc' w4 oc4 hgr4 _ hat4; have E := Hb3.out.c hgr4 oc4 hat4; obtain ⟨e1, e2, e3⟩ := E; have F := own_succ oc4; obtain ⟨gc, cpc, rfl⟩ := F; have f2 := blk_frozen e1 2; have d2 := blk_cell e1 2; have Hb4 := Lib.hid e2; have Hf4 := Lib.hid (Hf3.out.then e3 (fun i hi => .inl hi)); clear e1 e2 e3 oc4 hgr4))
      go_roundw
      case rel => exact ⟨k + 1, _, _, _, by go_num, hlt, by have := Hb4.out; rw [icol, icol, bcol, col_succ, col_succ, col_succ] at this; exact this, Hf4.out.blk hz (fun h => by omega), below_keep br Hf4.out br.size (fun i hi => by omega), Nat.le_trans hsz Hf4.out.size⟩
      case measure => simp [intOf]; omega
    · obtain rfl : n = k := by omega
      have F1 := own_slice hb.oa
      have F2 := own_slice hb.ob
      have F3 := own_slice hb.oc
      obtain ⟨aa, ac, rfl, _⟩ := F1
      obtain ⟨ab, bc, rfl, _⟩ := F2
      obtain ⟨ad, cd, rfl, _⟩ := F3
      have y0 := blk_cell hz 0
      have y1 := blk_cell hz 1
      have y2 := blk_cell hz 2
      have y3 := blk_cell hz 3
      have cm := blk_cell hb.box 3
      have f0 := blk_frozen hz 0
      have f1 := blk_frozen hz 1
      have f2 := blk_frozen hz 2
      have f3 := blk_frozen hz 3
      obtain ⟨W, hW⟩ : ∃ W, W = ((((wr.setCell ⟨w.heap.size, 0, none⟩ (.slice aa n ac)).setCell ⟨w.heap.size, 1, none⟩ (.slice ab n bc)).setCell ⟨w.heap.size, 2, none⟩ (.slice ad n cd)).setCell ⟨w.heap.size, 3, none⟩ (.int .i64 g)) := ⟨_, rfl⟩
      have K : Keep (fun i => i = w.heap.size) wr W := by rw [hW]; exact ((((Keep.refl (fun i => i = w.heap.size) wr).setCell (.inl rfl) _).setCell (.inl rfl) _).setCell (.inl rfl) _).setCell (.inl rfl) _
      have hr : W.heap[w.heap.size]? = some (.cells #[.slice aa n ac, .slice ab n bc, .slice ad n cd, .int .i64 g] 29 (0, 0)) := by
        rw [hW]
        have := blk_set (blk_set (blk_set (blk_set hz 0 (.slice aa n ac)) 1 (.slice ab n bc)) 2 (.slice ad n cd)) 3 (.int .i64 g)
        simpa using this
      have oa' := own_keep hb.oa K (fun i hi h => by have := (hb.oa.lt i hi).1; omega)
      have ob' := own_keep hb.ob K (fun i hi h => by have := (hb.ob.lt i hi).1; omega)
      have oc' := own_keep hb.oc K (fun i hi h => by have := (hb.oc.lt i hi).1; omega)
      have hfin : RT (fun i => w.heap.size ≤ i) W (.agg #[.slice aa n ac, .slice ab n bc, .slice ad n cd, .int .i64 g]) n g (fun _ => 1) (fun _ => false) (List.range n) ∧ Below w.heap.size w W :=
        ⟨⟨_, _, _, rfl, vv_of_own oa' (fun i hi => by omega), vv_of_own ob' (fun i hi => by omega), vv_of_own oc' (fun i hi => by omega)⟩, below_keep br K br.size (fun i hi => by omega)⟩
      have Hfin := Lib.hid hfin
      have r0 := Lib.hid (blk_cell hr 0)
      have r1 := Lib.hid (blk_cell hr 1)
      have r2 := Lib.hid (blk_cell hr 2)
      have r3 := Lib.hid (blk_cell hr 3)
      have HW := Lib.hid hW
      clear hfin K oa' ob' oc' hr hb hW
      go_wp2_with fail
      rw [← HW.out]
      have r0 := r0.out
      have r1 := r1.out
      have r2 := r2.out
      have r3 := r3.out
      exact bodyPost_ret (v := .tuple #[.agg #[.slice aa n ac, .slice ab n bc, .slice ad n cd, .int .i64 g], .int .i64 0]) (by simp [results, Try.results16, go_sem, r0, r1, r2, r3]) rfl ⟨_, rfl, Hfin.out⟩
end Go.Proofs.Ytkbifnbblimnlaa
