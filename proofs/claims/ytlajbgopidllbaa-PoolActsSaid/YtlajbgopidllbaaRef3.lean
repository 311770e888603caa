/- The contract of the reference's Give. -/
import Derived.Test.YtlajbgopidllbaaRef2
namespace Go.Proofs.Ytlajbgopidllbaa
open Go.RowKit
attribute [local go_sem] Oper.semAt_some

theorem rgive_out (B : Nat) (w : World) (v : Value) (os fr : List Int) (i : Int) (h : RP B w v os fr) (hi : i < 0 ∨ os.length ≤ i) : Calls Try.prog 18 #[v, .int .i64 i] w fun e w' => e = .returned (.tuple #[v, .int .i64 1]) ∧ Below w.heap.size w w' := by
  obtain ⟨vo, vf, rfl, ⟨ao, co, rfl, k1⟩, ⟨af, cf, rfl, k2⟩⟩ := h
  clear k1 k2
  by_cases h1 : i < 0
  · clear hi
    go_enter Try.func18, Try.ntmps18
    go_wp2_with fail
    exact bodyPost_ret (v := .tuple #[.agg #[.slice ao os.length co, .slice af fr.length cf], .int .i64 1]) (by simp [results, Try.results18, go_sem]) rfl ⟨rfl, ((Below.refl _ _).alloc (Nat.le_refl _) _).alloc (by simp) _⟩
  · have h2 : (os.length : Int) ≤ i := by omega
    clear hi
    go_enter Try.func18, Try.ntmps18
    go_wp2_with fail
    exact bodyPost_ret (v := .tuple #[.agg #[.slice ao os.length co, .slice af fr.length cf], .int .i64 1]) (by simp [results, Try.results18, go_sem]) rfl ⟨rfl, ((Below.refl _ _).alloc (Nat.le_refl _) _).alloc (by simp) _⟩
theorem rgive_none (B : Nat) (w : World) (v : Value) (os fr : List Int) (i : Nat) (h : RP B w v os fr) (hi : i < os.length) (ho : os.getD i 0 = -1) : Calls Try.prog 18 #[v, .int .i64 i] w fun e w' => e = .returned (.tuple #[v, .int .i64 9]) ∧ Below w.heap.size w w' := by
  obtain ⟨vo, vf, rfl, hlo, ⟨af, cf, rfl, k2⟩⟩ := h
  obtain ⟨b, off, c, rfl, hx⟩ := hlo.elem hi
  clear k2 hlo
  have hB : Below w.heap.size w ((w.alloc (.cells #[.slice (some ⟨b, off, none⟩) os.length c, .slice af fr.length cf] 27)).alloc (.cells #[.slice none 0 0, .slice none 0 0] 27)) := ((Below.refl _ _).alloc (Nat.le_refl _) _).alloc (by simp) _
  have hx0 := hx _ hB
  rw [ho] at hx0
  clear hx ho
  go_enter Try.func18, Try.ntmps18
  go_wp2_with fail
  exact bodyPost_ret (v := .tuple #[.agg #[.slice (some ⟨b, off, none⟩) os.length c, .slice af fr.length cf], .int .i64 9]) (by simp [results, Try.results18, go_sem]) rfl ⟨rfl, ((Below.refl _ _).alloc (Nat.le_refl _) _).alloc (by simp) _⟩

theorem own_one (w : World) (B : Nat) (x : Int) (hb : B ≤ w.heap.size) : (w.alloc (.cells #[.int .i64 x] 3)).ownsRow B 3 1 (.slice (some ⟨w.heap.size, 0, none⟩) 1 1) 1 (icells [x]) :=
  ⟨rfl, .inr ⟨w.heap.size, 1, #[.int .i64 x], rfl, hb, blk_new _ _, Nat.le_refl _, by unfold maxLen; omega, rfl, rfl⟩⟩

set_option maxHeartbeats 2000000 in
theorem rgive_any (B : Nat) (w : World) (v : Value) (os fr : List Int) (i : Nat) (h : RP B w v os fr) (hi : i < os.length) (ho : os.getD i 0 ≠ -1) (hBw : B ≤ w.heap.size) (hl : os.length ≤ 1024) (hfl : fr.length ≤ 1024) :
    Calls Try.prog 18 #[v, .int .i64 i] w fun e w' => ∃ v', e = .returned (.tuple #[v', .int .i64 0]) ∧ RP B w' v' (os.set i (-1)) ((i : Int) :: fr) ∧ Below w.heap.size w w' := by
  obtain ⟨i0, ei, ez0, ez1, ez2⟩ := info_parts Try.infoI
  have hrp := Lib.hid h
  obtain ⟨vo, vf, rfl, hlo, hlf⟩ := h
  have Hlf := Lib.hid hlf
  obtain ⟨b, off, c, rfl, hx⟩ := hlo.elem hi
  obtain ⟨af, cf, rfl, k2⟩ := hlf
  clear k2 hlo
  have hB : Below w.heap.size w ((w.alloc (.cells #[.slice (some ⟨b, off, none⟩) os.length c, .slice af fr.length cf] 27)).alloc (.cells #[.slice none 0 0, .slice none 0 0] 27)) := ((Below.refl _ _).alloc (Nat.le_refl _) _).alloc (by simp) _
  have hx0 := hx _ hB
  have HR := Lib.hid (hrp.out.keep hB)
  obtain ⟨x, hxe⟩ : ∃ x, x = os.getD i 0 := ⟨_, rfl⟩
  rw [← hxe] at hx0 ho
  have e0 : (x == -1) = false := beq_eq_false_iff_ne.2 ho
  have HB := Lib.hid hB
  clear hx hxe hrp hB
  go_enter Try.func18, Try.ntmps18
  go_wp2_with fail
  refine (with_any B _ _ os fr i (-1) HR.out (by simp; omega) hi hl).mono ?_
  rintro e w2 ⟨v2, rfl, ⟨v2o, v2f, rfl, l1, l2⟩, b2⟩
  have L1 := Lib.hid l1
  obtain ⟨a3, c3, rfl, k3⟩ := l1
  obtain ⟨a4, c4, rfl, k4⟩ := l2
  clear k3 k4
  have X0 : w2.heap[w.heap.size]? = some (.cells #[.slice (some ⟨b, off, none⟩) os.length c, .slice af fr.length cf] 27 (0, 0)) := below_blk b2 (blk_alloc (blk_new _ _) _) (by simp; omega)
  have X1 : w2.heap[w.heap.size + 1]? = some (.cells #[.slice none 0 0, .slice none 0 0] 27 (0, 0)) := below_blk b2 (by
    have := blk_new (w.alloc (.cells #[.slice (some ⟨b, off, none⟩) os.length c, .slice af fr.length cf] 27)) (.cells #[.slice none 0 0, .slice none 0 0] 27)
    simpa using this) (by simp)
  have hsz : w.heap.size + 2 ≤ w2.heap.size := by have := b2.size; simp at this; omega
  have hB2 : Below w.heap.size w w2 := HB.out.trans (b2.mono (by simp; omega))
  have Y1 := fun o o' => blk_cell (blk_alloc (blk_alloc X0 o) o') 1
  obtain ⟨B6, hB6⟩ : ∃ B6, B6 = (w2.alloc (.cells #[.slice a3 os.length c3, .slice a4 fr.length c4] 27)).alloc (.cells #[.int .i64 i] 3) := ⟨_, rfl⟩
  have oE : ((w2.alloc (.cells #[.slice a3 os.length c3, .slice a4 fr.length c4] 27)).alloc (.cells #[.int .i64 i] 3)).ownsRow (w2.heap.size + 1) 3 1 (.slice (some ⟨w2.heap.size + 1, 0, none⟩) 1 1) 1 (icells [(i : Int)]) := by
    have := own_one (w2.alloc (.cells #[.slice a3 os.length c3, .slice a4 fr.length c4] 27)) (w2.heap.size + 1) i (by simp)
    simpa using this
  have bE2 : Below w2.heap.size w2 ((w2.alloc (.cells #[.slice a3 os.length c3, .slice a4 fr.length c4] 27)).alloc (.cells #[.int .i64 i] 3)) := ((Below.refl _ _).alloc (Nat.le_refl _) _).alloc (by simp) _
  have X6 : ((w2.alloc (.cells #[.slice a3 os.length c3, .slice a4 fr.length c4] 27)).alloc (.cells #[.int .i64 i] 3)).heap[w2.heap.size]? = some (.cells #[.slice a3 os.length c3, .slice a4 fr.length c4] 27 (0, 0)) := blk_alloc (blk_new _ _) _
  have Rv : Hid (ReadV ((w2.alloc (.cells #[.slice a3 os.length c3, .slice a4 fr.length c4] 27)).alloc (.cells #[.int .i64 i] 3)) (.slice af fr.length cf) fr.length (icells fr)) := Lib.hid (lv_readV ((Hlf.out.keep hB2).keep bE2))
  have HX6 := Lib.hid X6
  have HX0 := Lib.hid X0
  have HX1 := Lib.hid X1
  have HbE2 := Lib.hid bE2
  have HB2 := Lib.hid hB2
  clear hx0 hB6 B6 X6 X1 X0 bE2 hB2
  go_wp2_with (at_builtin; (refine wpList_append_list _ rfl (.tmp 28) (.tmp 30) 25 rfl (w2.heap.size + 1) 3 i0 (.int .i64 0) 1 8 Try.underlying25 ei ez0 ez1 ez2 rfl (by decide) _ _ _ rfl oE fr.length (icells fr) Rv.out (by simp [icells]) (icells_one _) (by unfold maxLen; omega) (by omega) (by simp) ?_); (intro v4 w4 o4 hg4); (have K4 : Keep (fun k => k = w2.heap.size + 1) _ w4 := (keep_of_grown hg4).mono (fun k hk => .inl (Option.some.inj hk).symm)); (have x6 := K4.blk HX6.out (show ¬ (w2.heap.size = w2.heap.size + 1) from by omega)); (have x1 := K4.blk (blk_alloc (blk_alloc HX1.out _) _) (show ¬ (w.heap.size + 1 = w2.heap.size + 1) from by omega)); (have o5 := own_head (l := (i : Int) :: fr) o4 (by omega) (by simp; omega)); (obtain ⟨g, cap, rfl, hg1, hcap, hcapm, hcells, hfz⟩ := o5); (have Hcells := Lib.hid hcells); (clear hcells hfz); (have x60 := blk_cell x6 0); (have x61 := blk_cell x6 1); (have x6f := blk_frozen x6 0); (have x6g := blk_frozen x6 1); (have x10 := blk_cell x1 0); (have x11 := blk_cell x1 1); (have x1f := blk_frozen x1 0); (have x1g := blk_frozen x1 1); (have ne1 : w2.heap.size ≠ w.heap.size + 1 := by omega))
  have q1 : Below w2.heap.size w2 w4 := below_keep HbE2.out K4 HbE2.out.size (fun k hk => by omega)
  have q2 : Below w2.heap.size w2 (w4.setCell ⟨w2.heap.size, 1, none⟩ (.slice (some ⟨g, 0, none⟩) (1 + fr.length) cap)) := below_keep q1 ((Keep.refl (fun k => k = w2.heap.size) w4).setCell (.inl rfl) _) q1.size (fun k hk => by omega)
  have x1' : (w4.setCell ⟨w2.heap.size, 1, none⟩ (.slice (some ⟨g, 0, none⟩) (1 + fr.length) cap)).heap[w.heap.size + 1]? = some (.cells #[.slice none 0 0, .slice none 0 0] 27 (0, 0)) := blk_far x1 (fun h => ne1 h.symm) _
  have K : Keep (fun k => k = w.heap.size + 1) (w4.setCell ⟨w2.heap.size, 1, none⟩ (.slice (some ⟨g, 0, none⟩) (1 + fr.length) cap)) (((w4.setCell ⟨w2.heap.size, 1, none⟩ (.slice (some ⟨g, 0, none⟩) (1 + fr.length) cap)).setCell ⟨w.heap.size + 1, 0, none⟩ (.slice a3 os.length c3)).setCell ⟨w.heap.size + 1, 1, none⟩ (.slice (some ⟨g, 0, none⟩) (1 + fr.length) cap)) := ((Keep.refl (fun k => k = w.heap.size + 1) (w4.setCell ⟨w2.heap.size, 1, none⟩ (.slice (some ⟨g, 0, none⟩) (1 + fr.length) cap))).setCell (.inl rfl) _).setCell (.inl rfl) _
  have hr : (((w4.setCell ⟨w2.heap.size, 1, none⟩ (.slice (some ⟨g, 0, none⟩) (1 + fr.length) cap)).setCell ⟨w.heap.size + 1, 0, none⟩ (.slice a3 os.length c3)).setCell ⟨w.heap.size + 1, 1, none⟩ (.slice (some ⟨g, 0, none⟩) (1 + fr.length) cap)).heap[w.heap.size + 1]? = some (.cells #[.slice a3 os.length c3, .slice (some ⟨g, 0, none⟩) (1 + fr.length) cap] 27 (0, 0)) := by
    have := blk_set (blk_set x1' 0 (.slice a3 os.length c3)) 1 (.slice (some ⟨g, 0, none⟩) (1 + fr.length) cap)
    simpa using this
  have q3 : Below w.heap.size w (w4.setCell ⟨w2.heap.size, 1, none⟩ (.slice (some ⟨g, 0, none⟩) (1 + fr.length) cap)) := HB2.out.trans (q2.mono (by omega))
  have q4 : Below w.heap.size w (((w4.setCell ⟨w2.heap.size, 1, none⟩ (.slice (some ⟨g, 0, none⟩) (1 + fr.length) cap)).setCell ⟨w.heap.size + 1, 0, none⟩ (.slice a3 os.length c3)).setCell ⟨w.heap.size + 1, 1, none⟩ (.slice (some ⟨g, 0, none⟩) (1 + fr.length) cap)) := below_keep q3 K q3.size (fun k hk => by omega)
  have lo := lv_keep1 (L1.out.keep q2) K x1' (fun i x => by
    match i with
    | 0 => simp
    | 1 => simp
    | i + 2 => simp)
  rw [List.length_set] at lo
  have o6 := own_keep o4 ((((Keep.refl (fun k => k < w2.heap.size + 1) w4).setCell (p := ⟨w2.heap.size, 1, none⟩) (.inl (show w2.heap.size < w2.heap.size + 1 from by omega)) (.slice (some ⟨g, 0, none⟩) (1 + fr.length) cap)).setCell (p := ⟨w.heap.size + 1, 0, none⟩) (.inl (show w.heap.size + 1 < w2.heap.size + 1 from by omega)) (.slice a3 os.length c3)).setCell (p := ⟨w.heap.size + 1, 1, none⟩) (.inl (show w.heap.size + 1 < w2.heap.size + 1 from by omega)) (.slice (some ⟨g, 0, none⟩) (1 + fr.length) cap)) (fun k hk h => by have := (o4.lt k hk).1; omega)
  have lf : LV B (((w4.setCell ⟨w2.heap.size, 1, none⟩ (.slice (some ⟨g, 0, none⟩) (1 + fr.length) cap)).setCell ⟨w.heap.size + 1, 0, none⟩ (.slice a3 os.length c3)).setCell ⟨w.heap.size + 1, 1, none⟩ (.slice (some ⟨g, 0, none⟩) (1 + fr.length) cap)) (.slice (some ⟨g, 0, none⟩) (1 + fr.length) cap) ((i : Int) :: fr) := by
    refine lv_of_own (base := w2.heap.size + 1) ?_ (by omega)
    rw [show ((i : Int) :: fr).length = 1 + fr.length from by simp; omega]
    exact o6
  have r0 := blk_cell hr 0
  have r1 := blk_cell hr 1
  exact bodyPost_ret (v := .tuple #[.agg #[.slice a3 os.length c3, .slice (some ⟨g, 0, none⟩) (1 + fr.length) cap], .int .i64 0]) (by simp [results, Try.results18, go_sem, r0, r1]) rfl ⟨_, rfl, ⟨_, _, rfl, lo, lf⟩, q4⟩
end Go.Proofs.Ytlajbgopidllbaa
