/- The contract of the reference's with. -/
import Derived.Test.YtkbifnbblimnlaaRNew
import Derived.Test.YtkbifnbblimnlaaStep
namespace Go.Proofs.Ytkbifnbblimnlaa
open Go.RowKit
set_option linter.unusedVariables false
attribute [local go_sem] Oper.semAt_some

theorem icol_get (f : Nat → Int) (n i : Nat) (h : i < n) : (icol f n)[i]? = some (.int .i64 (f i)) := col_get _ _ _ h
theorem bcol_get (f : Nat → Bool) (n i : Nat) (h : i < n) : (bcol f n)[i]? = some (.bool (f i)) := col_get _ _ _ h
theorem icol_set (f : Nat → Int) (n i : Nat) (x : Int) : (icol f n).set i (.int .i64 x) = icol (upd f i x) n := by
  unfold icol; rw [col_set]; apply col_congr; intro j _; unfold upd; split <;> rfl
theorem bcol_set (f : Nat → Bool) (n i : Nat) (x : Bool) : (bcol f n).set i (.bool x) = bcol (updB f i x) n := by
  unfold bcol; rw [col_set]; apply col_congr; intro j _; unfold updB; split <;> rfl
theorem grow_blk {wE w3 : World} {g : Nat} {x : Nat} {A : Obj} (hg : wE.grownBy w3 (some g)) (X : wE.heap[x]? = some A) (h : x ≠ g) : w3.heap[x]? = some A :=
  (keep_of_grown hg).blk X (fun e => h (Option.some.inj e).symm)
theorem grow_below {B : Nat} {w wE w3 : World} {g : Nat} (hg : wE.grownBy w3 (some g)) (b : Below B w wE) (h : B ≤ g) (hB : B ≤ wE.heap.size) : Below B w w3 :=
  below_keep b (keep_of_grown hg) hB (fun i hi => by have := Option.some.inj hi; omega)

abbrev bx (v1 v2 v3 v4 : Value) : Obj := .cells #[v1, v2, v3, v4] 29
abbrev w0 (w : World) (v1 v2 v3 v4 : Value) : World := ((w.alloc (bx v1 v2 v3 v4)).alloc (bx (.slice none 0 0) (.slice none 0 0) (.slice none 0 0) (.int .i64 0))).alloc (.cells #[] 3)
set_option maxHeartbeats 4000000 in
theorem with_any (B1 B2 : Nat → Prop) (w : World) (n m : Nat) (gens : Int) (gn : Nat → Int) (lv : Nat → Bool) (a1 a2 a3 : Option Addr) (c1 c2 c3 : Nat) (i : Nat) (x : Int) (b : Bool) (k1 : VV B1 w (.slice a1 n c1) (icol gn n)) (k2 : VV B2 w (.slice a2 n c2) (bcol lv n)) (hi : i < n) (hl : n ≤ 4096) :
    Calls Try.prog 26 #[.agg #[.slice a1 n c1, .slice a2 n c2, .slice a3 m c3, .int .i64 gens], .int .i64 i, .int .i64 x, .bool b] w fun e w' => ∃ a4 c4 a5 c5, e = .returned (.agg #[.slice a4 n c4, .slice a5 n c5, .slice a3 m c3, .int .i64 gens]) ∧ VV (fun i => w.heap.size ≤ i) w' (.slice a4 n c4) (icol (upd gn i x) n) ∧ VV (fun i => w.heap.size ≤ i) w' (.slice a5 n c5) (bcol (updB lv i b) n) ∧ Below w.heap.size w w' := by
  obtain ⟨i0, ei, ez0, ez1, ez2⟩ := info_parts Try.infoI
  obtain ⟨j0, fi, fz0, fz1, fz2⟩ := info_parts Try.infoB
  have bE : Below w.heap.size w (w0 w (.slice a1 n c1) (.slice a2 n c2) (.slice a3 m c3) (.int .i64 gens)) := (((Below.refl _ _).alloc (Nat.le_refl _) _).alloc (by simp) _).alloc (by simp; omega) _
  have Rv : Hid (ReadV (w0 w (.slice a1 n c1) (.slice a2 n c2) (.slice a3 m c3) (.int .i64 gens)) (.slice a1 n c1) n (icol gn n)) := Lib.hid (by have := vv_readV (k1.keep bE); rw [icol_len] at this; exact this)
  have oE : (w0 w (.slice a1 n c1) (.slice a2 n c2) (.slice a3 m c3) (.int .i64 gens)).ownsRow (w.heap.size + 2) 3 1 (.slice (some ⟨w.heap.size + 2, 0, none⟩) 0 0) 0 [] := by
    have := own_empty ((w.alloc (bx (.slice a1 n c1) (.slice a2 n c2) (.slice a3 m c3) (.int .i64 gens))).alloc (bx (.slice none 0 0) (.slice none 0 0) (.slice none 0 0) (.int .i64 0))) (w.heap.size + 2) 3 1 (by simp)
    simpa using this
  have X0 : (w0 w (.slice a1 n c1) (.slice a2 n c2) (.slice a3 m c3) (.int .i64 gens)).heap[w.heap.size]? = some (.cells #[.slice a1 n c1, .slice a2 n c2, .slice a3 m c3, .int .i64 gens] 29 (0, 0)) := blk_alloc (blk_alloc (blk_new _ _) _) _
  have X1 : (w0 w (.slice a1 n c1) (.slice a2 n c2) (.slice a3 m c3) (.int .i64 gens)).heap[w.heap.size + 1]? = some (.cells #[.slice none 0 0, .slice none 0 0, .slice none 0 0, .int .i64 0] 29 (0, 0)) := by
    have := blk_alloc (blk_new (w.alloc (bx (.slice a1 n c1) (.slice a2 n c2) (.slice a3 m c3) (.int .i64 gens))) (bx (.slice none 0 0) (.slice none 0 0) (.slice none 0 0) (.int .i64 0))) (.cells #[] 3)
    simpa using this
  have HX0 := Lib.hid X0
  have HX1 := Lib.hid X1
  have HbE := Lib.hid bE
  have HoE := Lib.hid oE
  have K2 := Lib.hid k2
  have hnp : 0 < n := by omega
  have igx := icol_get gn n i hi
  have bgx := bcol_get lv n i hi
  have Igx := Lib.hid igx
  have Bgx := Lib.hid bgx
  clear X0 X1 bE k1 k2 oE igx bgx
  go_enter Try.func26, Try.ntmps26
  go_wp2_with (first
    | (at_builtin; (refine wpList_append_list _ rfl (.tmp 11) (.tmp 13) 26 rfl (w.heap.size + 2) 3 i0 (.int .i64 0) 1 8 Try.underlying26 ei ez0 ez1 ez2 rfl (by decide) _ _ _ rfl HoE.out n (icol gn n) Rv.out (by simp [icol_len]) (one_icol _ _) (by unfold maxLen; omega) (by omega) (by simp) ?_); (intro v3 w3 o3 hg3); (have x0 := grow_blk (g := w.heap.size + 2) hg3 HX0.out (by omega)); (have x1 := grow_blk (g := w.heap.size + 2) hg3 HX1.out (by omega)); (have b3 := grow_below (g := w.heap.size + 2) hg3 HbE.out (by omega) (by simp; omega)); (simp only [Nat.zero_add, List.nil_append] at o3); (have C3 := own_headV o3 hnp); (obtain ⟨g, cap, rfl, hg1, hg2, hcap, hcapm, hcells, hfz⟩ := C3); (have y0 := hcells i _ Igx.out); (have yf := hfz i); (have x0b := fun p u hp t => blk_cell (blk_alloc (blk_far (p := p) x0 hp u) t) 1); (have O3 := Lib.hid o3); (have X03 := Lib.hid x0); (have X13 := Lib.hid x1); (have B3 := Lib.hid b3); (clear hcells hfz o3 x0 x1 b3 hg3); (have gne : g ≠ w.heap.size := by omega); (have gne2 : g ≠ w.heap.size + 1 := by omega); (have x0bb := x0b ⟨g, i, none⟩ (.int .i64 x) (fun h => gne h.symm) (.cells #[] 4)); (clear x0b); (have hb4 := (below1 B3.out (g := g) (by omega) B3.out.size i (.int .i64 x)).alloc (by simp; exact B3.out.size) (.cells #[] 4)); (have rv2 := vv_readV (K2.out.keep hb4)); (rw [bcol_len] at rv2); (have Rv2 := Lib.hid rv2); (have HB4 := Lib.hid hb4); (have oe2 := own_empty (w3.setCell ⟨g, i, none⟩ (.int .i64 x)) w3.heap.size 4 1 (by simp)); (simp only [World.size_setCell] at oe2); (have OE2 := Lib.hid oe2); clear hb4 rv2 oe2)
    | (at_builtin; (refine wpList_append_list _ rfl (.tmp 19) (.tmp 21) 27 rfl w3.heap.size 4 j0 (.bool false) 1 1 Try.underlying27 fi fz0 fz1 fz2 rfl (by decide) _ _ _ rfl OE2.out n (bcol lv n) Rv2.out (by simp [bcol_len]) (one_bcol _ _) (by unfold maxLen; omega) (by omega) (by simp) ?_); (intro v5 w5 o5 hg5); (have hsz5 := B3.out.size); (have x0 := grow_blk (g := w3.heap.size) hg5 (blk_alloc (blk_far (p := ⟨g, i, none⟩) X03.out (fun h => gne h.symm) (.int .i64 x)) (.cells #[] 4)) (by simp; omega)); (have x1 := grow_blk (g := w3.heap.size) hg5 (blk_alloc (blk_far (p := ⟨g, i, none⟩) X13.out (fun h => gne2 h.symm) (.int .i64 x)) (.cells #[] 4)) (by simp; omega)); (have o3 := own_keep ((own_setV (i := i) (.int .i64 x) O3.out).alloc (.cells #[] 4)) (keep_of_grown hg5) (fun k hk hk2 => by have := (O3.out.lt k (by simpa [Value.ownBlock] using hk)).2; have e := Option.some.inj hk2; simp at e; omega)); (have b5 : Below w.heap.size w w5 := grow_below (g := w3.heap.size) hg5 HB4.out B3.out.size HB4.out.size); (simp only [Nat.zero_add, List.nil_append] at o5); (have C5 := own_headV o5 hnp); (obtain ⟨gb, capb, rfl, hgb1, hgb2, hcapb, hcapmb, hcells, hfz⟩ := C5); (have z0 := hcells i _ Bgx.out); (have zf := hfz i); (have O5 := Lib.hid o5); (have O35 := Lib.hid o3); (have B5 := Lib.hid b5); (clear hcells hfz o5 o3 b5 hg5); (have hgb3 : w.heap.size + 2 < gb := by omega); (have gbne : gb ≠ w.heap.size := by omega); (have gbne2 : gb ≠ w.heap.size + 1 := by omega); (have gbne3 : g ≠ gb := by have := (O3.out.lt g (by simp [Value.ownBlock])).2; omega); (have s0 := blk_cell x0 0); (have s1 := blk_cell x0 1); (have s2 := blk_cell x0 2); (have s3 := blk_cell x0 3); (have sf0 := blk_frozen x0 0); (have sf1 := blk_frozen x0 1); (have t0 := blk_cell x1 0); (have t1 := blk_cell x1 1); (have t2 := blk_cell x1 2); (have t3 := blk_cell x1 3); (have tf0 := blk_frozen x1 0); (have tf1 := blk_frozen x1 1); (have tf2 := blk_frozen x1 2); (have tf3 := blk_frozen x1 3); (have HX05 := Lib.hid x0); (have HX15 := Lib.hid x1); clear x0 x1))
  obtain ⟨W, hW⟩ : ∃ W, W = (((((((w5.setCell ⟨gb, i, none⟩ (.bool b)).setCell ⟨w.heap.size, 0, none⟩ (.slice (some ⟨g, 0, none⟩) n cap)).setCell ⟨w.heap.size, 1, none⟩ (.slice (some ⟨gb, 0, none⟩) n capb)).setCell ⟨w.heap.size + 1, 0, none⟩ (.slice (some ⟨g, 0, none⟩) n cap)).setCell ⟨w.heap.size + 1, 1, none⟩ (.slice (some ⟨gb, 0, none⟩) n capb)).setCell ⟨w.heap.size + 1, 2, none⟩ (.slice a3 m c3)).setCell ⟨w.heap.size + 1, 3, none⟩ (.int .i64 gens)) := ⟨_, rfl⟩
  rw [← hW]
  have K : Keep (fun k => k < w.heap.size + 2) (w5.setCell ⟨gb, i, none⟩ (.bool b)) W := by
    rw [hW]
    exact ((((((Keep.refl (fun k => k < w.heap.size + 2) _).setCell (.inl (show w.heap.size < w.heap.size + 2 from by omega)) _).setCell (.inl (show w.heap.size < w.heap.size + 2 from by omega)) _).setCell (.inl (show w.heap.size + 1 < w.heap.size + 2 from by omega)) _).setCell (.inl (show w.heap.size + 1 < w.heap.size + 2 from by omega)) _).setCell (.inl (show w.heap.size + 1 < w.heap.size + 2 from by omega)) _).setCell (.inl (show w.heap.size + 1 < w.heap.size + 2 from by omega)) _
  have K5 : Keep (fun k => w.heap.size ≤ k) (w5.setCell ⟨gb, i, none⟩ (.bool b)) W := by
    rw [hW]
    exact ((((((Keep.refl (fun k => w.heap.size ≤ k) _).setCell (.inl (show w.heap.size ≤ w.heap.size from Nat.le_refl _)) _).setCell (.inl (show w.heap.size ≤ w.heap.size from Nat.le_refl _)) _).setCell (.inl (show w.heap.size ≤ w.heap.size + 1 from by omega)) _).setCell (.inl (show w.heap.size ≤ w.heap.size + 1 from by omega)) _).setCell (.inl (show w.heap.size ≤ w.heap.size + 1 from by omega)) _).setCell (.inl (show w.heap.size ≤ w.heap.size + 1 from by omega)) _
  have hr : W.heap[w.heap.size + 1]? = some (.cells #[.slice (some ⟨g, 0, none⟩) n cap, .slice (some ⟨gb, 0, none⟩) n capb, .slice a3 m c3, .int .i64 gens] 29 (0, 0)) := by
    rw [hW]
    have h := blk_set (blk_set (blk_set (blk_set (blk_far (p := ⟨w.heap.size, 1, none⟩) (blk_far (p := ⟨w.heap.size, 0, none⟩) (blk_far (p := ⟨gb, i, none⟩) HX15.out (fun h => gbne2 h.symm) (.bool b)) (by simp) (.slice (some ⟨g, 0, none⟩) n cap)) (by simp) (.slice (some ⟨gb, 0, none⟩) n capb)) 0 (.slice (some ⟨g, 0, none⟩) n cap)) 1 (.slice (some ⟨gb, 0, none⟩) n capb)) 2 (.slice a3 m c3)) 3 (.int .i64 gens)
    simpa using h
  have og := own_keep (own_keep O35.out ((Keep.refl (fun k => k = gb) w5).setCell (.inl rfl) (.bool b)) (fun k hk h => gbne3 (by have := Option.some.inj (by simpa [Value.ownBlock] using hk : some g = some k); omega))) K (fun k hk h => by have := Option.some.inj (by simpa [Value.ownBlock] using hk : some g = some k); omega)
  have ob := own_keep (own_setV (i := i) (.bool b) O5.out) K (fun k hk h => by have := Option.some.inj (by simpa [Value.ownBlock] using hk : some gb = some k); omega)
  have hsz5 := B5.out.size
  have hB : Below w.heap.size w W := below_keep (below1 B5.out (g := gb) (by omega) hsz5 i (.bool b)) K5 (by rw [World.size_setCell]; exact hsz5) (fun k hk => hk)
  rw [icol_set] at og
  rw [bcol_set] at ob
  have r0 := blk_cell hr 0
  have r1 := blk_cell hr 1
  have r2 := blk_cell hr 2
  have r3 := blk_cell hr 3
  exact bodyPost_ret (v := .agg #[.slice (some ⟨g, 0, none⟩) n cap, .slice (some ⟨gb, 0, none⟩) n capb, .slice a3 m c3, .int .i64 gens]) (by simp [results, Try.results26, go_sem, r0, r1, r2, r3]) rfl ⟨_, _, _, _, rfl, vv_of_own og (fun i hi => by omega), vv_of_own ob (fun i hi => by omega), hB⟩
end Go.Proofs.Ytkbifnbblimnlaa
