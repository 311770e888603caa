/- The contract of the laws' own run: the table and the reference's side by side. -/
import Derived.Test.YtkbifnbblimnlaaRStep
namespace Go.Proofs.Ytkbifnbblimnlaa
open Go.RowKit
set_option linter.unusedVariables false
attribute [local go_sem] Oper.semAt_some

abbrev Act := Bool × Int × Int
abbrev act0 : Act := (false, 0, 0)
/-- the acts that came in -/
def ReadA (w : World) (a : Option Addr) (zs : List Act) : Prop := zs.length = 0 ∨ ∃ b off, a = some ⟨b, off, none⟩ ∧ ∀ i, i < zs.length → w.cell? ⟨b, off + i * 3, none⟩ = some (.bool (zs.getD i act0).1) ∧ w.cell? ⟨b, off + i * 3 + 1, none⟩ = some (.int .u8 (zs.getD i act0).2.1) ∧ w.cell? ⟨b, off + i * 3 + 2, none⟩ = some (.int .u8 (zs.getD i act0).2.2) ∧ (0 ≤ (zs.getD i act0).2.1 ∧ (zs.getD i act0).2.1 ≤ 255) ∧ (0 ≤ (zs.getD i act0).2.2 ∧ (zs.getD i act0).2.2 ≤ 255)
theorem ReadA.elem {w : World} {a : Option Addr} {zs : List Act} (hz : ReadA w a zs) {k : Nat} (hk : k < zs.length) :
    ∃ b off, a = some ⟨b, off, none⟩ ∧ ((0 ≤ (zs.getD k act0).2.1 ∧ (zs.getD k act0).2.1 ≤ 255) ∧ (0 ≤ (zs.getD k act0).2.2 ∧ (zs.getD k act0).2.2 ≤ 255)) ∧ ∀ wr, Below w.heap.size w wr → wr.cell? ⟨b, off + k * 3, none⟩ = some (.bool (zs.getD k act0).1) ∧ wr.cell? ⟨b, off + k * 3 + 1, none⟩ = some (.int .u8 (zs.getD k act0).2.1) ∧ wr.cell? ⟨b, off + k * 3 + 2, none⟩ = some (.int .u8 (zs.getD k act0).2.2) := by
  obtain ⟨b, off, ha, h⟩ := hz.resolve_left (by omega)
  obtain ⟨h1, h2, h3, h4, h5⟩ := h k hk
  exact ⟨b, off, ha, ⟨h4, h5⟩, fun wr br => ⟨(br.cell (p := ⟨b, off + k * 3, none⟩) (World.block_lt_of_cell? w _ h1)).trans h1, (br.cell (p := ⟨b, off + k * 3 + 1, none⟩) (World.block_lt_of_cell? w _ h2)).trans h2, (br.cell (p := ⟨b, off + k * 3 + 2, none⟩) (World.block_lt_of_cell? w _ h3)).trans h3⟩⟩
theorem ReadA.below {w w' : World} {a : Option Addr} {zs : List Act} (h : ReadA w a zs) (k : Below w.heap.size w w') : ReadA w' a zs := by
  rcases h with h | ⟨b, off, ha, h⟩
  · exact .inl h
  · refine .inr ⟨b, off, ha, fun i hi => ?_⟩
    obtain ⟨h1, h2, h3, h4, h5⟩ := h i hi
    exact ⟨(k.cell (p := ⟨b, off + i * 3, none⟩) (World.block_lt_of_cell? w _ h1)).trans h1, (k.cell (p := ⟨b, off + i * 3 + 1, none⟩) (World.block_lt_of_cell? w _ h2)).trans h2, (k.cell (p := ⟨b, off + i * 3 + 2, none⟩) (World.block_lt_of_cell? w _ h3)).trans h3, h4, h5⟩

/-- the two tables, in step -/
def Sy (B : Nat → Prop) (w : World) (g gs n : Nat) (v : Value) (gens : Int) (gn : Nat → Int) (lv : Nat → Bool) (fr : List Nat) : Prop := TA w g gs n gens gn lv fr ∧ RT B w v n gens gn lv fr
theorem TA.len {w : World} {g gs n : Nat} {gens : Int} {gn : Nat → Int} {lv : Nat → Bool} {fr : List Nat} (h : TA w g gs n gens gn lv fr) : fr.length ≤ n := by
  obtain ⟨_, _, _, _, m2, _, e, _⟩ := h
  omega
theorem gn_ext {w : World} {n : Nat} {gens : Int} {gn gn' : Nat → Int} {lv : Nat → Bool} {fr : List Nat} {B : Nat → Prop} {v : Value} (h : RT B w v n gens gn lv fr) (e : ∀ i, i < n → gn i = gn' i) : RT B w v n gens gn' lv fr := by
  obtain ⟨vg, vl, vf, h0, h1, h2, h3⟩ := h
  refine ⟨vg, vl, vf, h0, ?_, h2, h3⟩
  rw [← show icol gn n = icol gn' n from col_congr (fun i hi => by rw [e i hi])]
  exact h1
theorem run_ints (a b : Int) (ha : 0 ≤ a ∧ a ≤ 255) (hb : 0 ≤ b ∧ b ≤ 255) : IntKind.i64.wrap a = a ∧ IntKind.i64.wrap b = b ∧ a.tmod 8 = a % 8 ∧ b.tmod 4 = b % 4 ∧ IntKind.i64.wrap (a % 8) = a % 8 ∧ IntKind.i64.wrap (b % 4) = b % 4 ∧ IntKind.i64.wrap (1 + a % 8) = 1 + a % 8 ∧ IntKind.i64.wrap (1 + b % 4) = 1 + b % 4 :=
  ⟨IntWalk.i64_in _ (by omega), IntWalk.i64_in _ (by omega), Int.tmod_eq_emod_of_nonneg ha.1, Int.tmod_eq_emod_of_nonneg hb.1, IntWalk.i64_in _ (by omega), IntWalk.i64_in _ (by omega), IntWalk.i64_in _ (by omega), IntWalk.i64_in _ (by omega)⟩

theorem held7 {w w' : World} {h b o : Nat} {t : TypeId} {v0 v1 v2 v3 : Value} {x y z : Value} (hb : w.heap[h]? = some (.cells #[v0, v1, v2, v3] t (0, 0))) (hx : w.cell? ⟨b, o, none⟩ = some x ∧ w.cell? ⟨b, o + 1, none⟩ = some y ∧ w.cell? ⟨b, o + 2, none⟩ = some z) (k : Below w.heap.size w w') :
    Below w.heap.size w w' ∧ w'.cell? ⟨h, 0, none⟩ = some v0 ∧ w'.cell? ⟨h, 1, none⟩ = some v1 ∧ w'.cell? ⟨h, 2, none⟩ = some v2 ∧ w'.cell? ⟨h, 3, none⟩ = some v3 ∧ w'.cell? ⟨b, o, none⟩ = some x ∧ w'.cell? ⟨b, o + 1, none⟩ = some y ∧ w'.cell? ⟨b, o + 2, none⟩ = some z :=
  ⟨k, (blk_cell (below_blk k hb (blk_lt hb)) 0).trans rfl, (blk_cell (below_blk k hb (blk_lt hb)) 1).trans rfl, (blk_cell (below_blk k hb (blk_lt hb)) 2).trans rfl, (blk_cell (below_blk k hb (blk_lt hb)) 3).trans rfl, (k.cell (p := ⟨b, o, none⟩) (World.block_lt_of_cell? w _ hx.1)).trans hx.1, (k.cell (p := ⟨b, o + 1, none⟩) (World.block_lt_of_cell? w _ hx.2.1)).trans hx.2.1, (k.cell (p := ⟨b, o + 2, none⟩) (World.block_lt_of_cell? w _ hx.2.2)).trans hx.2.2⟩
/-- the box of the reference's value turned -/
theorem sy_box {B : Nat → Prop} {g gs n x : Nat} {w : World} {v v0 v1 v2 v3 : Value} {gens : Int} {gn : Nat → Int} {lv : Nat → Bool} {fr : List Nat} {t : TypeId} (hs : Sy B w g gs n v gens gn lv fr) (hb : w.heap[x]? = some (.cells #[v0, v1, v2, v3] t (0, 0))) (u0 u1 u2 u3 : Value)
    (hg : g ≠ x) (hp : gs ≠ x) (hx : ¬ B x) :
    Sy B ((((w.setCell ⟨x, 0, none⟩ u0).setCell ⟨x, 1, none⟩ u1).setCell ⟨x, 2, none⟩ u2).setCell ⟨x, 3, none⟩ u3) g gs n v gens gn lv fr ∧ ((((w.setCell ⟨x, 0, none⟩ u0).setCell ⟨x, 1, none⟩ u1).setCell ⟨x, 2, none⟩ u2).setCell ⟨x, 3, none⟩ u3).heap[x]? = some (.cells #[u0, u1, u2, u3] t (0, 0)) ∧
      Keep (fun i => i = x) w ((((w.setCell ⟨x, 0, none⟩ u0).setCell ⟨x, 1, none⟩ u1).setCell ⟨x, 2, none⟩ u2).setCell ⟨x, 3, none⟩ u3) := by
  have K : Keep (fun i => i = x) w ((((w.setCell ⟨x, 0, none⟩ u0).setCell ⟨x, 1, none⟩ u1).setCell ⟨x, 2, none⟩ u2).setCell ⟨x, 3, none⟩ u3) := ((((Keep.refl (fun i => i = x) w).setCell (.inl rfl) _).setCell (.inl rfl) _).setCell (.inl rfl) _).setCell (.inl rfl) _
  refine ⟨⟨hs.1.keep K hg hp, hs.2.keepS K (fun i hi h => hx (by rw [← h]; exact hi))⟩, ?_, K⟩
  have := blk_set (blk_set (blk_set (blk_set hb 0 u0) 1 u1) 2 u2) 3 u3
  simpa using this

set_option maxRecDepth 100000 in
set_option maxHeartbeats 4000000 in
theorem run_any (w : World) (x0 x1 : Int) (n : Nat) (gens : Int) (hx0 : 0 ≤ x0 ∧ x0 ≤ 255) (hx1 : 0 ≤ x1 ∧ x1 ≤ 255) (hn : (n : Int) = 1 + x0 % 8) (hgn : gens = 1 + x1 % 4) (a : Option Addr) (c : Nat) (zs : List Act) (hl : zs.length ≤ 40) (hz : ReadA w a zs) :
    Calls Try.prog 9 #[.agg #[.int .u8 x0, .int .u8 x1], .slice a zs.length c] w fun e w' => ∃ g gs v gn lv fr, e = .returned (.tuple #[ptr g, v, .bool true]) ∧ w.heap.size ≤ g ∧ w.heap.size ≤ gs ∧ (∃ B, Sy B w' g gs n v gens gn lv fr) ∧ Below w.heap.size w w' := by
  have Hz := Lib.hid hz
  obtain ⟨i1, i2, i3, i4, i5, i6, i7, i8⟩ := run_ints x0 x1 hx0 hx1
  have h1 : 1 ≤ n ∧ n ≤ 8 ∧ 1 ≤ gens ∧ gens ≤ 4 := by omega
  replace i7 := i7.trans hn.symm
  replace i8 := i8.trans hgn.symm
  have Hn := Lib.hid hn
  have Hg := Lib.hid hgn
  clear hz hn hgn
  go_enter Try.func9, Try.ntmps9
  go_wp2_with fail
  refine (ta_new _ n gens h1.1 (by omega) h1.2.2.1 (by omega)).mono ?_
  rintro e w1 ⟨g, gs, rfl, hg, hgs, p1, b1⟩
  have P1 := Lib.hid p1
  clear p1
  have XB : Hid (w1.heap[w.heap.size]? = some (.cells #[.int .u8 x0, .int .u8 x1] 22 (0, 0))) := Lib.hid (below_blk b1 (blk_alloc (blk_new _ _) _) (by simp; omega))
  have XR : Hid (w1.heap[w.heap.size + 1]? = some (.cells #[.slice none 0 0, .slice none 0 0, .slice none 0 0, .int .i64 0] 29 (0, 0))) := Lib.hid (below_blk b1 (by have := blk_new (w.alloc (.cells #[.int .u8 x0, .int .u8 x1] 22)) (.cells #[.slice none 0 0, .slice none 0 0, .slice none 0 0, .int .i64 0] 29); simpa using this) (by simp))
  have bB : Below w.heap.size w w1 := (((Below.refl _ _).alloc (Nat.le_refl _) _).alloc (by simp) _).trans (b1.mono (by simp; omega))
  have HbB := Lib.hid bB
  have hz0 : w.heap.size + 2 ≤ w1.heap.size := by have := b1.size; simpa using this
  simp only [World.size_alloc] at hg hgs
  have u0 := blk_cell XB.out 0
  have u1 := blk_cell XB.out 1
  clear b1 bB
  go_wp2_with fail
  refine (rnew_any _ n gens h1.1 (by omega) h1.2.2.1 (by omega)).mono ?_
  rintro e w2 ⟨v, rfl, r, b2⟩
  have hz2 := b2.size
  have hgl := P1.out.lt
  have R0 : Hid (RT (fun i => w1.heap.size ≤ i ∧ i ≠ w2.heap.size) w2 v n gens (fun i => if i < n then 1 else 0) (fun _ => false) (List.range n)) := Lib.hid (gn_ext (r.lt.mono (fun i hi => ⟨hi.1, by have := hi.2; omega⟩)) (fun i hi => by rw [if_pos hi]))
  have P2 := Lib.hid (P1.out.below b2)
  have XR2 := Lib.hid (below_blk b2 XR.out (by omega))
  have HbB2 := Lib.hid (HbB.out.trans (b2.mono (by omega)))
  obtain ⟨a1, c1, a2, c2, a3, c3, rfl, k1, k2, k3⟩ := R0.out.val
  rw [List.length_range] at R0 ⊢
  clear k1 k2 k3 r b2 u0 u1
  have X9 : (w2.alloc (.cells #[.slice a1 n c1, .slice a2 n c2, .slice a3 n c3, .int .i64 gens] 29)).heap[w2.heap.size]? = some (.cells #[.slice a1 n c1, .slice a2 n c2, .slice a3 n c3, .int .i64 gens] 29 (0, 0)) := blk_new _ _
  have bX : Below w2.heap.size w2 (w2.alloc (.cells #[.slice a1 n c1, .slice a2 n c2, .slice a3 n c3, .int .i64 gens] 29)) := (Below.refl _ _).alloc (Nat.le_refl _) _
  have Hst : Hid (Sy (fun i => w1.heap.size ≤ i ∧ i ≠ w2.heap.size) (w2.alloc (.cells #[.slice a1 n c1, .slice a2 n c2, .slice a3 n c3, .int .i64 gens] 29)) g gs n (.agg #[.slice a1 n c1, .slice a2 n c2, .slice a3 n c3, .int .i64 gens]) gens (fun i => if i < n then 1 else 0) (fun _ => false) (List.range n)) := Lib.hid ⟨P2.out.below bX, R0.out.keep bX⟩
  have HX9 := Lib.hid X9
  clear X9 bX
  go_wp2_with fail
  go_loopw [11] (fun i wr => ∃ (k : Nat) (gn : Nat → Int) (lv : Nat → Bool) (fr : List Nat) (vg vl vf vm : Value), i = .int .i64 k ∧ k ≤ zs.length ∧ wr.heap[w2.heap.size]? = some (.cells #[vg, vl, vf, vm] 29 (0, 0)) ∧ Sy (fun i => w1.heap.size ≤ i ∧ i ≠ w2.heap.size) wr g gs n (.agg #[vg, vl, vf, vm]) gens gn lv fr ∧ wr.heap[w.heap.size + 1]? = some (.cells #[.slice none 0 0, .slice none 0 0, .slice none 0 0, .int .i64 0] 29 (0, 0)) ∧ Below w.heap.size w wr ∧ w2.heap.size < wr.heap.size) (fun i _ => zs.length - (intOf i).toNat)
  case atStart => exact ⟨0, _, _, _, _, _, _, _, rfl, Nat.zero_le _, HX9.out, Hst.out, blk_alloc XR2.out _, HbB2.out.alloc HbB2.out.size _, by simp⟩
  case round =>
    obtain ⟨k, gn, lv, fr, vg, vl, vf, vm, rfl, hk, hx, hs, hxr, br, hzr⟩ := hrel
    have Hs := Lib.hid hs
    have V := hs.2.val
    obtain ⟨a1, c1, a2, c2, a3, c3, hv, k1, k2, k3⟩ := V
    cases hv
    have hflen : fr.length ≤ n := hs.1.len
    clear hs k1 k2 k3
    have HX := Lib.hid hx
    have HXr := Lib.hid hxr
    by_cases hlt : k < zs.length
    · have E := Hz.out.elem hlt
      obtain ⟨b, off, rfl, hab, hel⟩ := E
      obtain ⟨act, hact⟩ : ∃ act, act = zs.getD k act0 := ⟨_, rfl⟩
      rw [← hact] at hab hel
      have Ha := Lib.hid hel
      have t := Ha.out wr br
      obtain ⟨t0, t1, t2⟩ := t
      clear hact hx hxr hel
      obtain ⟨gv, o, o'⟩ := act
      cases gv
      · go_wp2_with fail
        refine (ps_take wr g gs n gens gn lv fr Hs.out.1).mono ?_
        rintro e w3 ⟨hh, ss, er, lv', fr', rfl, ht, p3, k3⟩
        have Ht := Lib.hid ht
        have P3 := Lib.hid p3
        have hsz3 := k3.size
        have X3 := Lib.hid (k3.blk HX.out (fun h => by omega))
        have XR3 := Lib.hid (k3.blk HXr.out (fun h => by omega))
        have R3 := Lib.hid (Hs.out.2.keepS k3 (fun i hi h => by omega))
        have b3' := Lib.hid (below_keep br k3 br.size (fun i hi => by omega))
        clear ht p3 k3 t0 t1 t2
        have y0 := blk_cell X3.out 0
        have y1 := blk_cell X3.out 1
        have y2 := blk_cell X3.out 2
        have y3 := blk_cell X3.out 3
        go_wp2_with fail
        refine (rs_take _ w3 _ n gens gn lv fr hh ss er lv' fr' R3.out (fun i hi => by omega) (by omega) Ht.out).mono ?_
        rintro e w4 ⟨v4, rfl, r4, b4⟩
        have V := r4.val
        obtain ⟨a4, c4, a5, c5, a6, c6, hv, k1, k2, k3⟩ := V
        cases hv
        have R4 := Lib.hid r4
        clear r4 k1 k2 k3 y0 y1 y2 y3
        have hsz4 := b4.size
        have x4 := Lib.hid (below_blk b4 X3.out (by omega))
        have xr4 := Lib.hid (below_blk b4 XR3.out (by omega))
        have p4 := Lib.hid (P3.out.below b4)
        have b4' := Lib.hid (b3'.out.trans (b4.mono b3'.out.size))
        clear b4
        have cf0 := blk_frozen (blk_alloc x4.out (.cells #[.slice a4 n c4, .slice a5 n c5, .slice a6 fr'.length c6, .int .i64 gens] 29)) 0
        have cf1 := blk_frozen (blk_alloc x4.out (.cells #[.slice a4 n c4, .slice a5 n c5, .slice a6 fr'.length c6, .int .i64 gens] 29)) 1
        have cf2 := blk_frozen (blk_alloc x4.out (.cells #[.slice a4 n c4, .slice a5 n c5, .slice a6 fr'.length c6, .int .i64 gens] 29)) 2
        have cf3 := blk_frozen (blk_alloc x4.out (.cells #[.slice a4 n c4, .slice a5 n c5, .slice a6 fr'.length c6, .int .i64 gens] 29)) 3
        have cx0 := blk_cell (blk_alloc x4.out (.cells #[.slice a4 n c4, .slice a5 n c5, .slice a6 fr'.length c6, .int .i64 gens] 29)) 0
        have cx1 := blk_cell (blk_alloc x4.out (.cells #[.slice a4 n c4, .slice a5 n c5, .slice a6 fr'.length c6, .int .i64 gens] 29)) 1
        have cx2 := blk_cell (blk_alloc x4.out (.cells #[.slice a4 n c4, .slice a5 n c5, .slice a6 fr'.length c6, .int .i64 gens] 29)) 2
        have cx3 := blk_cell (blk_alloc x4.out (.cells #[.slice a4 n c4, .slice a5 n c5, .slice a6 fr'.length c6, .int .i64 gens] 29)) 3
        have bA : Below w4.heap.size w4 (w4.alloc (.cells #[.slice a4 n c4, .slice a5 n c5, .slice a6 fr'.length c6, .int .i64 gens] 29)) := (Below.refl _ _).alloc (Nat.le_refl _) _
        have SB := Lib.hid (sy_box ⟨p4.out.below bA, R4.out.keep bA⟩ (blk_alloc x4.out (.cells #[.slice a4 n c4, .slice a5 n c5, .slice a6 fr'.length c6, .int .i64 gens] 29)) (.slice a4 n c4) (.slice a5 n c5) (.slice a6 fr'.length c6) (.int .i64 gens) (by omega) (by omega) (fun h => h.2 rfl))
        have HbA := Lib.hid (b4'.out.alloc b4'.out.size (.cells #[.slice a4 n c4, .slice a5 n c5, .slice a6 fr'.length c6, .int .i64 gens] 29))
        have HxA := Lib.hid (blk_alloc xr4.out (.cells #[.slice a4 n c4, .slice a5 n c5, .slice a6 fr'.length c6, .int .i64 gens] 29))
        have hszA : w2.heap.size < (w4.alloc (.cells #[.slice a4 n c4, .slice a5 n c5, .slice a6 fr'.length c6, .int .i64 gens] 29)).heap.size := by simp; omega
        clear bA
        go_wp2_with fail
        go_roundw
        case rel => exact ⟨k + 1, gn, lv', fr', _, _, _, _, by go_num, hlt, SB.out.2.1, SB.out.1, SB.out.2.2.blk HxA.out (by omega), below_keep HbA.out SB.out.2.2 HbA.out.size (fun i hi => by omega), Nat.lt_of_lt_of_le hszA SB.out.2.2.size⟩
        case measure => simp [intOf]; omega
      · simp only at hab t0 t1 t2
        go_wp2_with fail
        refine (handle_any wr true o o' hab.1 hab.2).mono ?_
        rintro e wA ⟨rfl, bA⟩
        have HsA := Lib.hid (Hs.out.1.below bA)
        have RA := Lib.hid (Hs.out.2.keep bA)
        have hszA := bA.size
        have XA := Lib.hid (below_blk bA HX.out (by omega))
        have XRA := Lib.hid (below_blk bA HXr.out (by omega))
        have brA := Lib.hid (br.trans (bA.mono br.size))
        obtain ⟨hh, hhe⟩ : ∃ hh, hh = hand o o' := ⟨_, rfl⟩
        have hhb : 0 ≤ hh ∧ hh ≤ 24576 := by rw [hhe]; unfold hand; omega
        rw [← hhe]
        have Hhe := Lib.hid hhe
        clear t0 t1 t2 bA hhe
        go_wp2_with fail
        refine (ps_give wA g gs n gens gn lv fr hh HsA.out (by omega)).mono ?_
        rintro e w3 ⟨er, gn', lv', fr', rfl, ht, p3, k3⟩
        have Ht := Lib.hid ht
        have P3 := Lib.hid p3
        have hsz3 := k3.size
        have X3 := Lib.hid (k3.blk XA.out (fun h => by omega))
        have XR3 := Lib.hid (k3.blk XRA.out (fun h => by omega))
        have R3 := Lib.hid (RA.out.keepS k3 (fun i hi h => by omega))
        have b3' := Lib.hid (below_keep brA.out k3 brA.out.size (fun i hi => by omega))
        have T := Lib.hid (Ha.out w3 b3'.out)
        clear ht p3 k3
        go_wp2_with fail
        have t0 := T.out.1
        have t1 := T.out.2.1
        have t2 := T.out.2.2
        have y0 := blk_cell X3.out 0
        have y1 := blk_cell X3.out 1
        have y2 := blk_cell X3.out 2
        have y3 := blk_cell X3.out 3
        have HELD := Lib.hid (fun W (k : Below w3.heap.size w3 W) => held7 X3.out T.out k)
        go_region_held3 (fun W => Below w3.heap.size w3 W ∧ W.cell? ⟨w2.heap.size, 0, none⟩ = some (.slice a1 n c1) ∧ W.cell? ⟨w2.heap.size, 1, none⟩ = some (.slice a2 n c2) ∧ W.cell? ⟨w2.heap.size, 2, none⟩ = some (.slice a3 fr.length c3) ∧ W.cell? ⟨w2.heap.size, 3, none⟩ = some (.int .i64 gens) ∧ W.cell? ⟨b, off + k * 3, none⟩ = some (.bool true) ∧ W.cell? ⟨b, off + k * 3 + 1, none⟩ = some (.int .u8 o) ∧ W.cell? ⟨b, off + k * 3 + 2, none⟩ = some (.int .u8 o'))
          (first
            | exact HELD.out _ (Below.refl _ _)
            | exact HELD.out _ (below_drew (Below.refl _ _))
            | exact HELD.out _ (below_drew ((Below.refl _ _).alloc (Nat.le_refl _) _))
            | exact HELD.out _ ((Below.refl _ _).alloc (Nat.le_refl _) _)
            | exact HELD.out _ b4'
            | exact HELD.out _ (b4'.alloc b4'.size _)
            | exact HELD.out _ b5'
            | exact HELD.out _ (b5'.alloc b5'.size _)
            | exact HELD.out _ (b4'.trans ((below1 (below1 (below1 (below1 b5c (Nat.le_refl _) b5c.size 0 _) (Nat.le_refl _) (by simp; exact b5c.size) 1 _) (Nat.le_refl _) (by simp; exact b5c.size) 2 _) (Nat.le_refl _) (by simp; exact b5c.size) 3 _).mono b4'.size))
            | exact HELD.out _ (below1 (below1 (below1 (below1 b5' (Nat.le_refl _) b5'.size 0 _) (Nat.le_refl _) (by simp; exact b5'.size) 1 _) (Nat.le_refl _) (by simp; exact b5'.size) 2 _) (Nat.le_refl _) (by simp; exact b5'.size) 3 _))
          (first
            | (go_at_call 19; refine (handle_any (w3.alloc (.cells #[.slice none 0 0, .slice none 0 0, .slice none 0 0, .int .i64 0] 29)).drew true o o' hab.1 hab.2).mono ?_; rintro e w4 ⟨rfl, b4⟩; rw [← Hhe.out]; have b4' : Below w3.heap.size w3 w4 := (below_drew ((Below.refl w3.heap.size w3).alloc (Nat.le_refl _) _)).trans (b4.mono (by simp)); have hz4 : w3.heap.size + 1 ≤ w4.heap.size := (by have := b4.size; simpa using this); have HYA := Lib.hid (below_blk b4 (blk_drew (blk_new w3 (.cells #[.slice none 0 0, .slice none 0 0, .slice none 0 0, .int .i64 0] 29))) (by simp)); have RA4 := Lib.hid ((R3.out.lt.mono (B' := fun i => (w1.heap.size ≤ i ∧ i ≠ w2.heap.size) ∧ i ≠ w3.heap.size) (fun i hi => ⟨hi.1, by have := hi.2; omega⟩)).keep b4'); clear b4)
            | (go_at_call 19; refine (handle_any w3.drew true o o' hab.1 hab.2).mono ?_; rintro e w4 ⟨rfl, b4⟩; rw [← Hhe.out]; have b4' : Below w3.heap.size w3 w4 := (below_drew (Below.refl w3.heap.size w3)).trans (b4.mono (Nat.le_refl _)); have hz4 : w3.heap.size ≤ w4.heap.size := b4'.size; have RB4 := Lib.hid (R3.out.keep b4'); clear b4)
            | (go_at_call 20; refine (rs_give (fun i => (w1.heap.size ≤ i ∧ i ≠ w2.heap.size) ∧ i ≠ w3.heap.size) w4 _ n gens gn lv fr hh er gn' lv' fr' RA4.out (fun i hi => by omega) (by omega) (by omega) Ht.out).mono ?_; rintro e w5 ⟨v5, rfl, r5, b5⟩; have V := r5.val; obtain ⟨a4, c4, a5, c5, a6, c6, hv, k1, k2, k3⟩ := V; cases hv; have R5 := Lib.hid r5; clear r5 k1 k2 k3; have hy := below_blk b5 HYA.out (by omega); have HY := Lib.hid hy; have hy0 := blk_cell hy 0; have hy1 := blk_cell hy 1; have hy2 := blk_cell hy 2; have hy3 := blk_cell hy 3; have hyf := blk_frozen hy 0; have hyg := blk_frozen hy 1; have hyh := blk_frozen hy 2; have hyi := blk_frozen hy 3; clear hy; have b5' : Below w3.heap.size w3 w5 := b4'.trans (b5.mono b4'.size); clear b5)
            | (go_at_call 20; refine (rs_give (fun i => (w1.heap.size ≤ i ∧ i ≠ w2.heap.size) ∧ i ≠ w4.heap.size) (w4.alloc (.cells #[.slice none 0 0, .slice none 0 0, .slice none 0 0, .int .i64 0] 29)) _ n gens gn lv fr hh er gn' lv' fr' ((RB4.out.lt.mono (B' := fun i => (w1.heap.size ≤ i ∧ i ≠ w2.heap.size) ∧ i ≠ w4.heap.size) (fun i hi => ⟨hi.1, by have := hi.2; omega⟩)).keep ((Below.refl _ _).alloc (Nat.le_refl _) (.cells #[.slice none 0 0, .slice none 0 0, .slice none 0 0, .int .i64 0] 29))) (fun i hi => by simp at hi; omega) (by omega) (by omega) Ht.out).mono ?_; rintro e w5 ⟨v5, rfl, r5, b5⟩; have V := r5.val; obtain ⟨a4, c4, a5, c5, a6, c6, hv, k1, k2, k3⟩ := V; cases hv; have R5 := Lib.hid r5; clear r5 k1 k2 k3; have hy := below_blk b5 (blk_new w4 (.cells #[.slice none 0 0, .slice none 0 0, .slice none 0 0, .int .i64 0] 29)) (by simp); have HYC := Lib.hid hy; have hy0 := blk_cell hy 0; have hy1 := blk_cell hy 1; have hy2 := blk_cell hy 2; have hy3 := blk_cell hy 3; have hyf := blk_frozen hy 0; have hyg := blk_frozen hy 1; have hyh := blk_frozen hy 2; have hyi := blk_frozen hy 3; clear hy; have b5c : Below w4.heap.size w4 w5 := ((Below.refl w4.heap.size w4).alloc (Nat.le_refl _) _).trans (b5.mono (by simp)); have b5' : Below w3.heap.size w3 w5 := b4'.trans (b5c.mono b4'.size); clear b5)
            | (go_at_call 20; refine (rs_give _ w4 _ n gens gn lv fr hh er gn' lv' fr' RB4.out (fun i hi => by omega) (by omega) (by omega) Ht.out).mono ?_; rintro e w5 ⟨v5, rfl, r5, b5⟩; have V := r5.val; obtain ⟨a4, c4, a5, c5, a6, c6, hv, k1, k2, k3⟩ := V; cases hv; have R5 := Lib.hid r5; clear r5 k1 k2 k3; have b5' : Below w3.heap.size w3 w5 := b4'.trans (b5.mono b4'.size); clear b5))
        all_goals
          rename_i hH
          first
            | (have bY : Below w3.heap.size w3 (w5.alloc (.cells #[.slice a4 n c4, .slice a5 n c5, .slice a6 fr'.length c6, .int .i64 gens] 29)) := hH.1; have hY := blk_new w5 (.cells #[.slice a4 n c4, .slice a5 n c5, .slice a6 fr'.length c6, .int .i64 gens] 29); have RY := Lib.hid (R5.out.keep ((Below.refl _ _).alloc (Nat.le_refl _) (.cells #[.slice a4 n c4, .slice a5 n c5, .slice a6 fr'.length c6, .int .i64 gens] 29))); have hgy : w3.heap.size ≤ w5.heap.size := b5'.size; clear hH; generalize w5.alloc (.cells #[.slice a4 n c4, .slice a5 n c5, .slice a6 fr'.length c6, .int .i64 gens] 29) = WY at bY hY RY ⊢; generalize w5.heap.size = gy at hY hgy ⊢)
            | (have F := fill4 (u0 := .slice a4 n c4) (u1 := .slice a5 n c5) (u2 := .slice a6 fr'.length c6) (u3 := .int .i64 gens) HY.out b5'; obtain ⟨bY, hY⟩ := F; have RY := Lib.hid ((R5.out.keepS (((((Keep.refl (fun i => i = w3.heap.size) w5).setCell (p := ⟨w3.heap.size, 0, none⟩) (.inl rfl) (.slice a4 n c4)).setCell (p := ⟨w3.heap.size, 1, none⟩) (.inl rfl) (.slice a5 n c5)).setCell (p := ⟨w3.heap.size, 2, none⟩) (.inl rfl) (.slice a6 fr'.length c6)).setCell (p := ⟨w3.heap.size, 3, none⟩) (.inl rfl) (.int .i64 gens)) (fun i hi h => hi.2 h)).mono (B' := fun i => w1.heap.size ≤ i ∧ i ≠ w2.heap.size) (fun i hi => hi.1)); clear hH; generalize ((((w5.setCell ⟨w3.heap.size, 0, none⟩ (.slice a4 n c4)).setCell ⟨w3.heap.size, 1, none⟩ (.slice a5 n c5)).setCell ⟨w3.heap.size, 2, none⟩ (.slice a6 fr'.length c6)).setCell ⟨w3.heap.size, 3, none⟩ (.int .i64 gens)) = WY at bY hY RY ⊢; generalize hgz : w3.heap.size = gy at hY ⊢; have hgy : w3.heap.size ≤ gy := Nat.le_of_eq hgz; clear hgz)
            | (have F := fill4 (u0 := .slice a4 n c4) (u1 := .slice a5 n c5) (u2 := .slice a6 fr'.length c6) (u3 := .int .i64 gens) HYC.out b5c; obtain ⟨bY0, hY⟩ := F; have bY := b4'.trans (bY0.mono b4'.size); clear bY0; have RY := Lib.hid ((R5.out.keepS (((((Keep.refl (fun i => i = w4.heap.size) w5).setCell (p := ⟨w4.heap.size, 0, none⟩) (.inl rfl) (.slice a4 n c4)).setCell (p := ⟨w4.heap.size, 1, none⟩) (.inl rfl) (.slice a5 n c5)).setCell (p := ⟨w4.heap.size, 2, none⟩) (.inl rfl) (.slice a6 fr'.length c6)).setCell (p := ⟨w4.heap.size, 3, none⟩) (.inl rfl) (.int .i64 gens)) (fun i hi h => hi.2 h)).mono (B' := fun i => w1.heap.size ≤ i ∧ i ≠ w2.heap.size) (fun i hi => hi.1)); clear hH; generalize ((((w5.setCell ⟨w4.heap.size, 0, none⟩ (.slice a4 n c4)).setCell ⟨w4.heap.size, 1, none⟩ (.slice a5 n c5)).setCell ⟨w4.heap.size, 2, none⟩ (.slice a6 fr'.length c6)).setCell ⟨w4.heap.size, 3, none⟩ (.int .i64 gens)) = WY at bY hY RY ⊢; have hgy : w3.heap.size ≤ w4.heap.size := hz4; generalize w4.heap.size = gy at hY hgy ⊢)
          have xy := below_blk bY X3.out (by omega)
          have xr := Lib.hid (below_blk bY XR3.out (by omega))
          have pY := Lib.hid (P3.out.below bY)
          have bw := Lib.hid (b3'.out.trans (bY.mono b3'.out.size))
          have hzY := bY.size
          have cy0 := blk_cell hY 0
          have cy1 := blk_cell hY 1
          have cy2 := blk_cell hY 2
          have cy3 := blk_cell hY 3
          have cf0 := blk_frozen xy 0
          have cf1 := blk_frozen xy 1
          have cf2 := blk_frozen xy 2
          have cf3 := blk_frozen xy 3
          have cx0 := blk_cell xy 0
          have cx1 := blk_cell xy 1
          have cx2 := blk_cell xy 2
          have cx3 := blk_cell xy 3
          have SB := Lib.hid (sy_box ⟨pY.out, RY.out⟩ xy (.slice a4 n c4) (.slice a5 n c5) (.slice a6 fr'.length c6) (.int .i64 gens) (by omega) (by omega) (fun h => h.2 rfl))
          clear xy hY bY
          go_wp2_with fail
          go_roundw
          case rel => exact ⟨k + 1, gn', lv', fr', _, _, _, _, by go_num, hlt, SB.out.2.1, SB.out.1, SB.out.2.2.blk xr.out (by omega), below_keep bw.out SB.out.2.2 bw.out.size (fun i hi => by omega), Nat.lt_of_lt_of_le (by omega) SB.out.2.2.size⟩
          case measure => simp [intOf]; omega
    · obtain rfl : k = zs.length := by omega
      have y0 := blk_cell hx 0
      have y1 := blk_cell hx 1
      have y2 := blk_cell hx 2
      have y3 := blk_cell hx 3
      have z0 := blk_cell hxr 0
      have z1 := blk_cell hxr 1
      have z2 := blk_cell hxr 2
      have z3 := blk_cell hxr 3
      have q0 := blk_frozen hxr 0
      have q1 := blk_frozen hxr 1
      have q2 := blk_frozen hxr 2
      have q3 := blk_frozen hxr 3
      have hnz : w.heap.size + 1 ≠ w2.heap.size := by omega
      have SB := Lib.hid (sy_box Hs.out hxr (.slice a1 n c1) (.slice a2 n c2) (.slice a3 fr.length c3) (.int .i64 gens) (by omega) (by omega) (fun h => by have := h.1; omega))
      clear hx hxr
      go_wp2_with fail
      go_region
      have r0 := blk_cell SB.out.2.1 0
      have r1 := blk_cell SB.out.2.1 1
      have r2 := blk_cell SB.out.2.1 2
      have r3 := blk_cell SB.out.2.1 3
      have SB2 := Lib.hid (below_keep br SB.out.2.2 br.size (fun i hi => by omega))
      generalize ((((wr.setCell ⟨w.heap.size + 1, 0, none⟩ (.slice a1 n c1)).setCell ⟨w.heap.size + 1, 1, none⟩ (.slice a2 n c2)).setCell ⟨w.heap.size + 1, 2, none⟩ (.slice a3 fr.length c3)).setCell ⟨w.heap.size + 1, 3, none⟩ (.int .i64 gens)) = WF at SB SB2 r0 r1 r2 r3 ⊢
      have hd := below_drew (Below.refl WF.heap.size WF)
      go_wp2_with fail
      refine bodyPost_ret (v := .tuple #[ptr g, .agg #[.slice a1 n c1, .slice a2 n c2, .slice a3 fr.length c3, .int .i64 gens], .bool true]) (by simp [results, Try.results9, go_sem, r0, r1, r2, r3]) rfl ⟨g, gs, _, gn, lv, fr, rfl, by omega, by omega, ⟨_, SB.out.1.1.below hd, SB.out.1.2.keep hd⟩, below_drew SB2.out⟩
end Go.Proofs.Ytkbifnbblimnlaa
