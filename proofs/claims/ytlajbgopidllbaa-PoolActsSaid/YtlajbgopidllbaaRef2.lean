/- The contracts of the reference's with, Take, Give and Owner. -/
import Derived.Test.YtlajbgopidllbaaRef
namespace Go.Proofs.Ytlajbgopidllbaa
open Go.RowKit
attribute [local go_sem] Oper.semAt_some

theorem own_set {w : World} {base g n cap i : Nat} {l : List Int} (x : Int) (h : w.ownsRow base 3 1 (.slice (some ⟨g, 0, none⟩) n cap) n (icells l)) :
    (w.setCell ⟨g, i, none⟩ (.int .i64 x)).ownsRow base 3 1 (.slice (some ⟨g, 0, none⟩) n cap) n (icells (l.set i x)) := by
  obtain ⟨h1, h2 | ⟨g', cap', cur, e, hb, hgg, hc, hm, hs, htake⟩⟩ := h
  · obtain ⟨h2, _⟩ := h2; cases h2
  · cases e
    refine ⟨by simpa [icells] using h1, .inr ⟨g, cap, cur.setIfInBounds i (.int .i64 x), rfl, hb, blk_set hgg i _, hc, hm, by simpa using hs, ?_⟩⟩
    rw [Array.toList_setIfInBounds, List.take_set, htake]
    simp [icells, List.map_set]

theorem own_frozen {w : World} {base g n cap : Nat} {e : TypeId} {size : Nat} {xs : List Value} (h : w.ownsRow base e size (.slice (some ⟨g, 0, none⟩) n cap) n xs) (i : Nat) : w.frozen? ⟨g, i, none⟩ = false := by
  obtain ⟨h1, h2 | ⟨g', cap', cur, e, hb, hgg, _⟩⟩ := h
  · obtain ⟨h2, _⟩ := h2; cases h2
  · cases e
    exact blk_frozen hgg i
theorem grow_step {w wE w3 : World} {B : Nat} {A C : Obj} (bE : Below w.heap.size w wE) (hB : w.heap.size + 2 = B) (hz : B ≤ wE.heap.size) (X0 : wE.heap[w.heap.size]? = some A) (X1 : wE.heap[w.heap.size + 1]? = some C) (hg : wE.grownBy w3 (some B)) :
    w3.heap[w.heap.size]? = some A ∧ w3.heap[w.heap.size + 1]? = some C ∧ Below w.heap.size w w3 := by
  have K3 := keep_of_grown hg
  exact ⟨K3.blk X0 (fun h => by have := Option.some.inj h; omega), K3.blk X1 (fun h => by have := Option.some.inj h; omega), below_keep bE K3 (by omega) (fun i hi => by have := Option.some.inj hi; omega)⟩
theorem own_head {w : World} {B n : Nat} {v : Value} {l : List Int} (h : w.ownsRow B 3 1 v n (icells l)) (h0 : 0 < n) (hn : l.length = n) : ∃ g cap, v = .slice (some ⟨g, 0, none⟩) n cap ∧ B ≤ g ∧ n ≤ cap ∧ cap ≤ 9223372036854775807 ∧ (∀ i, i < n → w.cell? ⟨g, i, none⟩ = some (.int .i64 (l.getD i 0))) ∧ ∀ i, w.frozen? ⟨g, i, none⟩ = false := by
  obtain ⟨g, cap, rfl, hg, _, hc, hm, hx⟩ := own_reads h h0
  exact ⟨g, cap, rfl, hg, hc, hm, fun i hi => hx i _ (by simp [icells, List.getD, hn, hi]), own_frozen h⟩

set_option maxHeartbeats 1000000 in
theorem with_any (B : Nat) (w : World) (v : Value) (os fr : List Int) (i : Nat) (x : Int) (h : RP B w v os fr) (hBw : B ≤ w.heap.size) (hi : i < os.length) (hl : os.length ≤ 1024) :
    Calls Try.prog 24 #[v, .int .i64 i, .int .i64 x] w fun e w' => ∃ v', e = .returned v' ∧ RP B w' v' (os.set i x) fr ∧ Below w.heap.size w w' := by
  obtain ⟨i0, ei, ez0, ez1, ez2⟩ := info_parts Try.infoI
  obtain ⟨vo, vf, rfl, ho, hf⟩ := h
  have Hf := Lib.hid hf
  have Ho := Lib.hid ho
  obtain ⟨ao, co, rfl, k1⟩ := ho
  obtain ⟨af, cf, rfl, k2⟩ := hf
  obtain ⟨n, hn⟩ : ∃ n, n = os.length := ⟨_, rfl⟩
  obtain ⟨m, hm⟩ : ∃ m, m = fr.length := ⟨_, rfl⟩
  rw [← hn] at hi hl Ho ⊢
  rw [← hm] at Hf ⊢
  have bE : Below w.heap.size w (((w.alloc (.cells #[.slice ao n co, .slice af m cf] 27)).alloc (.cells #[.slice none 0 0, .slice none 0 0] 27)).alloc (.cells #[] 3)) := (((Below.refl _ _).alloc (Nat.le_refl _) _).alloc (by simp) _).alloc (by simp; omega) _
  have Rv : Hid (ReadV (((w.alloc (.cells #[.slice ao n co, .slice af m cf] 27)).alloc (.cells #[.slice none 0 0, .slice none 0 0] 27)).alloc (.cells #[] 3)) (.slice ao n co) n (icells os)) := Lib.hid (by have := lv_readV (Ho.out.keep bE); rw [← hn] at this; exact this)
  have oE : (((w.alloc (.cells #[.slice ao n co, .slice af m cf] 27)).alloc (.cells #[.slice none 0 0, .slice none 0 0] 27)).alloc (.cells #[] 3)).ownsRow (w.heap.size + 2) 3 1 (.slice (some ⟨w.heap.size + 2, 0, none⟩) 0 0) 0 [] := by
    have := own_empty ((w.alloc (.cells #[.slice ao n co, .slice af m cf] 27)).alloc (.cells #[.slice none 0 0, .slice none 0 0] 27)) (w.heap.size + 2) 3 1 (by simp)
    simpa using this
  have X0 : (((w.alloc (.cells #[.slice ao n co, .slice af m cf] 27)).alloc (.cells #[.slice none 0 0, .slice none 0 0] 27)).alloc (.cells #[] 3)).heap[w.heap.size]? = some (.cells #[.slice ao n co, .slice af m cf] 27 (0, 0)) := blk_alloc (blk_alloc (blk_new _ _) _) _
  have X1 : (((w.alloc (.cells #[.slice ao n co, .slice af m cf] 27)).alloc (.cells #[.slice none 0 0, .slice none 0 0] 27)).alloc (.cells #[] 3)).heap[w.heap.size + 1]? = some (.cells #[.slice none 0 0, .slice none 0 0] 27 (0, 0)) := by
    have := blk_alloc (blk_new (w.alloc (.cells #[.slice ao n co, .slice af m cf] 27)) (.cells #[.slice none 0 0, .slice none 0 0] 27)) (.cells #[] 3)
    simpa using this
  have HX0 := Lib.hid X0
  have HX1 := Lib.hid X1
  have HbE := Lib.hid bE
  have Hnl : Hid (os.length = n) := Lib.hid hn.symm
  have Hml : Hid (fr.length = m) := Lib.hid hm.symm
  clear X0 X1 bE hn hm k1 k2
  go_enter Try.func24, Try.ntmps24
  go_wp2_with (at_builtin; refine wpList_append_list _ rfl (.tmp 8) (.tmp 10) 25 rfl (w.heap.size + 2) 3 i0 (.int .i64 0) 1 8 Try.underlying25 ei ez0 ez1 ez2 rfl (by decide) _ _ _ rfl oE n (icells os) Rv.out (by simp [icells, Hnl.out]) (icells_one _) (by unfold maxLen; omega) (by omega) (by simp) ?_; intro v3 w3 o3 hg3; have A3 := grow_step HbE.out rfl (by simp) HX0.out HX1.out hg3; (obtain ⟨x0, x1, b3⟩ := A3); (simp only [Nat.zero_add, List.nil_append] at o3); (have C3 := own_head o3 (Nat.lt_of_le_of_lt (Nat.zero_le i) hi) Hnl.out); (obtain ⟨g, cap, rfl, hg1, hcap, hcapm, hcells, hfz⟩ := C3); (have y0 := hcells i hi); (have yf := hfz i); (have x0c := blk_cell x0 0); (have x0d := blk_cell x0 1); (have x0f := blk_frozen x0 0); (have x1c := blk_cell x1 0); (have x1d := blk_cell x1 1); (have x1f := blk_frozen x1 0); (have x1g := blk_frozen x1 1); (have Hcells := Lib.hid hcells); (clear hcells hfz); (have gne : g ≠ w.heap.size := by omega); have gne2 : g ≠ w.heap.size + 1 := by omega)
  have hr : ((((w3.setCell ⟨g, i, none⟩ (.int .i64 x)).setCell ⟨w.heap.size, 0, none⟩ (.slice (some ⟨g, 0, none⟩) n cap)).setCell ⟨w.heap.size + 1, 0, none⟩ (.slice (some ⟨g, 0, none⟩) n cap)).setCell ⟨w.heap.size + 1, 1, none⟩ (.slice af m cf)).heap[w.heap.size + 1]? = some (.cells #[.slice (some ⟨g, 0, none⟩) n cap, .slice af m cf] 27 (0, 0)) := by
    have h := blk_set (blk_set (blk_far (p := ⟨w.heap.size, 0, none⟩) (blk_far (p := ⟨g, i, none⟩) x1 (fun h => gne2 h.symm) (.int .i64 x)) (by simp) (.slice (some ⟨g, 0, none⟩) n cap)) 0 (.slice (some ⟨g, 0, none⟩) n cap)) 1 (.slice af m cf)
    simpa using h
  have K : Keep (fun k => w.heap.size ≤ k) w3 ((((w3.setCell ⟨g, i, none⟩ (.int .i64 x)).setCell ⟨w.heap.size, 0, none⟩ (.slice (some ⟨g, 0, none⟩) n cap)).setCell ⟨w.heap.size + 1, 0, none⟩ (.slice (some ⟨g, 0, none⟩) n cap)).setCell ⟨w.heap.size + 1, 1, none⟩ (.slice af m cf)) :=
    ((((Keep.refl (fun k => w.heap.size ≤ k) w3).setCell (.inl (show w.heap.size ≤ g from by omega)) _).setCell (.inl (show w.heap.size ≤ w.heap.size from Nat.le_refl _)) _).setCell (.inl (show w.heap.size ≤ w.heap.size + 1 from by omega)) _).setCell (.inl (show w.heap.size ≤ w.heap.size + 1 from by omega)) _
  have hB : Below w.heap.size w ((((w3.setCell ⟨g, i, none⟩ (.int .i64 x)).setCell ⟨w.heap.size, 0, none⟩ (.slice (some ⟨g, 0, none⟩) n cap)).setCell ⟨w.heap.size + 1, 0, none⟩ (.slice (some ⟨g, 0, none⟩) n cap)).setCell ⟨w.heap.size + 1, 1, none⟩ (.slice af m cf)) := below_keep b3 K b3.size (fun _ h => h)
  have o4 := own_set (i := i) x o3
  have K2 : Keep (fun k => k < w.heap.size + 2) (w3.setCell ⟨g, i, none⟩ (.int .i64 x)) ((((w3.setCell ⟨g, i, none⟩ (.int .i64 x)).setCell ⟨w.heap.size, 0, none⟩ (.slice (some ⟨g, 0, none⟩) n cap)).setCell ⟨w.heap.size + 1, 0, none⟩ (.slice (some ⟨g, 0, none⟩) n cap)).setCell ⟨w.heap.size + 1, 1, none⟩ (.slice af m cf)) :=
    (((Keep.refl (fun k => k < w.heap.size + 2) _).setCell (.inl (show w.heap.size < w.heap.size + 2 from by omega)) _).setCell (.inl (show w.heap.size + 1 < w.heap.size + 2 from by omega)) _).setCell (.inl (show w.heap.size + 1 < w.heap.size + 2 from by omega)) _
  have o5 := own_keep o4 K2 (fun k hk h => by have := (o4.lt k hk).1; omega)
  have hl5 : (os.set i x).length = n := by rw [List.length_set]; exact Hnl.out
  have lo := lv_of_own (B := B) (l := os.set i x) (by rw [hl5]; exact o5) (by omega)
  have lf := Hf.out.keep hB
  have r0 := blk_cell hr 0
  have r1 := blk_cell hr 1
  exact bodyPost_ret (v := .agg #[.slice (some ⟨g, 0, none⟩) n cap, .slice af m cf]) (by simp [results, Try.results24, go_sem, r0, r1]) rfl ⟨_, rfl, ⟨_, _, rfl, lo, lf⟩, hB⟩

theorem rowner_any (B : Nat) (w : World) (v : Value) (os fr : List Int) (i : Int) (h : RP B w v os fr) :
    Calls Try.prog 11 #[v, .int .i64 i] w fun e w' => e = .returned (.int .i64 (ownS os.length (fun j => os.getD j 0) i)) ∧ Below w.heap.size w w' := by
  obtain ⟨vo, vf, rfl, ho, hf⟩ := h
  have Ho := Lib.hid ho
  obtain ⟨ao, co, rfl, k1⟩ := ho
  obtain ⟨af, cf, rfl, k2⟩ := hf
  clear k1 k2
  have hB : Below w.heap.size w (w.alloc (.cells #[.slice ao os.length co, .slice af fr.length cf] 27)) := (Below.refl _ _).alloc (Nat.le_refl _) _
  by_cases h1 : i < 0
  · rw [show ownS os.length (fun j => os.getD j 0) i = -1 from if_pos (.inl h1)]
    go_enter Try.func11, Try.ntmps11
    go_wp2_with fail
    go_ret
    exact ⟨rfl, hB⟩
  · by_cases h2 : (os.length : Int) ≤ i
    · rw [show ownS os.length (fun j => os.getD j 0) i = -1 from if_pos (.inr h2)]
      go_enter Try.func11, Try.ntmps11
      go_wp2_with fail
      go_ret
      exact ⟨rfl, hB⟩
    · obtain ⟨j, rfl⟩ : ∃ j : Nat, i = j := ⟨i.toNat, by omega⟩
      rw [show ownS os.length (fun j => os.getD j 0) j = os.getD j 0 from by unfold ownS; rw [if_neg (by omega)]; rfl]
      obtain ⟨b, off, c, hv, hx⟩ := Ho.out.elem (k := j) (by omega)
      cases hv
      have hx0 := hx _ hB
      obtain ⟨x, hxe⟩ : ∃ x, x = os.getD j 0 := ⟨_, rfl⟩
      rw [← hxe] at hx0 ⊢
      clear hx hxe
      go_enter Try.func11, Try.ntmps11
      go_wp2_with fail
      go_ret
      exact ⟨rfl, hB⟩

theorem rtake_bad (B : Nat) (w : World) (v : Value) (os fr : List Int) (o : Int) (h : RP B w v os fr) (ho : o < 0) : Calls Try.prog 19 #[v, .int .i64 o] w fun e w' => e = .returned (.tuple #[v, .int .i64 0, .int .i64 1]) ∧ Below w.heap.size w w' := by
  obtain ⟨vo, vf, rfl, ⟨ao, co, rfl, k1⟩, ⟨af, cf, rfl, k2⟩⟩ := h
  clear k1 k2
  go_enter Try.func19, Try.ntmps19
  go_wp2_with fail
  exact bodyPost_ret (v := .tuple #[.agg #[.slice ao os.length co, .slice af fr.length cf], .int .i64 0, .int .i64 1]) (by simp [results, Try.results19, go_sem]) rfl ⟨rfl, ((Below.refl _ _).alloc (Nat.le_refl _) _).alloc (by simp) _⟩
theorem rtake_none (B : Nat) (w : World) (v : Value) (os : List Int) (o : Int) (h : RP B w v os []) (ho : 0 ≤ o) : Calls Try.prog 19 #[v, .int .i64 o] w fun e w' => e = .returned (.tuple #[v, .int .i64 0, .int .i64 5]) ∧ Below w.heap.size w w' := by
  obtain ⟨vo, vf, rfl, ⟨ao, co, rfl, k1⟩, ⟨af, cf, rfl, k2⟩⟩ := h
  clear k1 k2
  simp only [List.length_nil]
  go_enter Try.func19, Try.ntmps19
  go_wp2_with fail
  exact bodyPost_ret (v := .tuple #[.agg #[.slice ao os.length co, .slice af 0 cf], .int .i64 0, .int .i64 5]) (by simp [results, Try.results19, go_sem]) rfl ⟨rfl, ((Below.refl _ _).alloc (Nat.le_refl _) _).alloc (by simp) _⟩
theorem lv_keep1 {B : Nat} {w w' : World} {v : Value} {l : List Int} {g : Nat} {cs : Array Value} {t : TypeId} (h : LV B w v l) (k : Keep (fun i => i = g) w w') (hb : w.heap[g]? = some (.cells cs t (0, 0))) (hc : ∀ (i : Nat) (x : Int), cs[i]? ≠ some (Value.int .i64 x)) : LV B w' v l := by
  obtain ⟨a, c, h1, h2, h3, h4, h5⟩ := h
  refine ⟨a, c, h1, h2, h3, h4, ?_⟩
  rcases h5 with h5 | ⟨b, off, ha, h5⟩
  · exact .inl h5
  · refine .inr ⟨b, off, ha, fun i hi => ?_⟩
    have h6 := h5 i hi
    have hne : b ≠ g := by
      rintro rfl
      rw [blk_cell hb] at h6
      exact hc _ _ h6
    have hlt := World.block_lt_of_cell? w _ h6
    have e := k.block b hlt hne
    rw [← h6]
    simp only [World.cell?, e]
theorem lv_tail {B : Nat} {w : World} {b off c : Nat} {x : Int} {l : List Int} (h : Reads .i64 w (some ⟨b, off, none⟩) (x :: l)) (hc : l.length + 1 ≤ c) (hm : c ≤ maxLen) (hb : B ≤ b) : LV B w (.slice (some ⟨b, off + 1, none⟩) l.length (c - 1)) l := by
  refine ⟨_, _, rfl, by omega, by omega, ⟨nofun, fun x hx => by cases hx; exact hb⟩, ?_⟩
  rcases h with h | ⟨b', off', e, h⟩
  · simp at h
  · cases e
    refine .inr ⟨b, off + 1, rfl, fun i hi => ?_⟩
    have := h (i + 1) (by simp; omega)
    rw [show off + 1 + i = off + (i + 1) from by omega]
    simpa using this
theorem rtake_any (B : Nat) (w : World) (v : Value) (os : List Int) (f : Nat) (fs : List Int) (o : Int) (h : RP B w v os ((f : Int) :: fs)) (hBw : B ≤ w.heap.size) (ho : 0 ≤ o) (hf : f < os.length) (hl : os.length ≤ 1024) :
    Calls Try.prog 19 #[v, .int .i64 o] w fun e w' => ∃ v', e = .returned (.tuple #[v', .int .i64 f, .int .i64 0]) ∧ RP B w' v' (os.set f o) fs ∧ Below w.heap.size w w' := by
  have hrp := Lib.hid h
  obtain ⟨vo, vf, rfl, ho', hf'⟩ := h
  obtain ⟨b, off, cf, hv, hx⟩ := hf'.elem (k := 0) (by simp)
  have hf2 := hf'
  obtain ⟨af2, cf2, hv2, hc1, hc2, hbl, hrd⟩ := hf2
  cases hv
  cases hv2
  have hbB : B ≤ b := hbl.2 _ rfl
  clear hbl
  obtain ⟨ao, co, rfl, k1⟩ := ho'
  clear k1 hf'
  have hB : Below w.heap.size w ((w.alloc (.cells #[.slice ao os.length co, .slice (some ⟨b, off, none⟩) ((f : Int) :: fs).length cf] 27)).alloc (.cells #[.slice none 0 0, .slice none 0 0] 27)) := ((Below.refl _ _).alloc (Nat.le_refl _) _).alloc (by simp) _
  have hx0 := hx _ hB
  have HR := Lib.hid (hrp.out.keep hB)
  have Hx := Lib.hid hx
  have Hrd := Lib.hid hrd
  simp only [Nat.add_zero, List.getD_cons_zero] at hx0
  obtain ⟨m, hm⟩ : ∃ m, m = ((f : Int) :: fs).length := ⟨_, rfl⟩
  have hm1 : m = fs.length + 1 := by rw [hm]; rfl
  rw [← hm] at hx0 HR hB hc1 ⊢
  have Hm := Lib.hid hm
  have Hm1 := Lib.hid hm1
  have hm0 : 1 ≤ m := by omega
  have e0 : ((m : Int) == 0) = false := beq_eq_false_iff_ne.2 (by omega)
  have HB := Lib.hid hB
  have hc2' : cf ≤ 9223372036854775807 := hc2
  clear hx hrd hm hm1 hrp hB
  go_enter Try.func19, Try.ntmps19
  go_wp2_with fail
  refine (with_any B _ _ os _ f o HR.out (by simp; omega) hf hl).mono ?_
  rintro e w2 ⟨v2, rfl, ⟨v2o, v2f, rfl, l1, l2⟩, b2⟩
  have L1 := Lib.hid l1
  obtain ⟨a3, c3, rfl, k3⟩ := l1
  obtain ⟨a4, c4, rfl, k4⟩ := l2
  clear k3 k4
  have X0 : w2.heap[w.heap.size]? = some (.cells #[.slice ao os.length co, .slice (some ⟨b, off, none⟩) m cf] 27 (0, 0)) := below_blk b2 (blk_alloc (blk_new _ _) _) (by simp; omega)
  have X1 : w2.heap[w.heap.size + 1]? = some (.cells #[.slice none 0 0, .slice none 0 0] 27 (0, 0)) := below_blk b2 (by
    have := blk_new (w.alloc (.cells #[.slice ao os.length co, .slice (some ⟨b, off, none⟩) m cf] 27)) (.cells #[.slice none 0 0, .slice none 0 0] 27)
    simpa using this) (by simp)
  have hsz : w.heap.size + 2 ≤ w2.heap.size := by have := b2.size; simp at this; omega
  have Y1 := fun o => blk_cell (blk_alloc X0 o) 1
  have Z0 := fun o => blk_cell (blk_alloc X1 o) 0
  have Z1 := fun o => blk_cell (blk_alloc X1 o) 1
  have F0 := fun o => blk_frozen (blk_alloc X1 o) 0
  have F1 := fun o => blk_frozen (blk_alloc X1 o) 1
  have HX1 := Lib.hid X1
  clear X0 X1
  have gne : w2.heap.size ≠ w.heap.size := by omega
  have gne2 : w2.heap.size ≠ w.heap.size + 1 := by omega
  by_cases hcf : cf = 1
  · subst hcf
    have hm2 : m = 1 := by omega
    subst hm2
    have hfs : fs = [] := List.eq_nil_of_length_eq_zero (by have := Hm1.out; omega)
    go_wp2_with fail
    have hr : (((w2.alloc (.cells #[.slice a3 os.length c3, .slice (some ⟨b, off, none⟩) 0 0] 27)).setCell ⟨w.heap.size + 1, 0, none⟩ (.slice a3 os.length c3)).setCell ⟨w.heap.size + 1, 1, none⟩ (.slice (some ⟨b, off, none⟩) 0 0)).heap[w.heap.size + 1]? = some (.cells #[.slice a3 os.length c3, .slice (some ⟨b, off, none⟩) 0 0] 27 (0, 0)) := by
      have := blk_set (blk_set (blk_alloc HX1.out (.cells #[.slice a3 os.length c3, .slice (some ⟨b, off, none⟩) 0 0] 27)) 0 (.slice a3 os.length c3)) 1 (.slice (some ⟨b, off, none⟩) 0 0)
      simpa using this
    have K : Keep (fun k => k = w.heap.size + 1) w2 (((w2.alloc (.cells #[.slice a3 os.length c3, .slice (some ⟨b, off, none⟩) 0 0] 27)).setCell ⟨w.heap.size + 1, 0, none⟩ (.slice a3 os.length c3)).setCell ⟨w.heap.size + 1, 1, none⟩ (.slice (some ⟨b, off, none⟩) 0 0)) := (((Keep.refl (fun k => k = w.heap.size + 1) w2).alloc _).setCell (.inl rfl) _).setCell (.inl rfl) _
    have hB2 : Below w.heap.size w w2 := HB.out.trans (b2.mono (by simp; omega))
    have hB3 : Below w.heap.size w (((w2.alloc (.cells #[.slice a3 os.length c3, .slice (some ⟨b, off, none⟩) 0 0] 27)).setCell ⟨w.heap.size + 1, 0, none⟩ (.slice a3 os.length c3)).setCell ⟨w.heap.size + 1, 1, none⟩ (.slice (some ⟨b, off, none⟩) 0 0)) := below_keep hB2 K hB2.size (fun i hi => by omega)
    have r0 := blk_cell hr 0
    have r1 := blk_cell hr 1
    have lo := lv_keep1 L1.out K HX1.out (fun i x => by
      match i with
      | 0 => simp
      | 1 => simp
      | i + 2 => simp)
    rw [List.length_set] at lo
    exact bodyPost_ret (v := .tuple #[.agg #[.slice a3 os.length c3, .slice (some ⟨b, off, none⟩) 0 0], .int .i64 f, .int .i64 0]) (by simp [results, Try.results19, go_sem, r0, r1]) rfl ⟨_, rfl, ⟨_, _, rfl, lo, by rw [hfs]; exact ⟨_, _, rfl, Nat.le_refl _, Nat.zero_le _, ⟨nofun, fun x hx => by cases hx; exact hbB⟩, .inl rfl⟩⟩, hB3⟩
  · have hcf2 : 1 < cf := by omega
    go_wp2_with fail
    have hlm : m - 1 = fs.length := by have := Hm1.out; omega
    have hr : (((w2.alloc (.cells #[.slice a3 os.length c3, .slice (some ⟨b, off + 1, none⟩) (m - 1) (cf - 1)] 27)).setCell ⟨w.heap.size + 1, 0, none⟩ (.slice a3 os.length c3)).setCell ⟨w.heap.size + 1, 1, none⟩ (.slice (some ⟨b, off + 1, none⟩) (m - 1) (cf - 1))).heap[w.heap.size + 1]? = some (.cells #[.slice a3 os.length c3, .slice (some ⟨b, off + 1, none⟩) (m - 1) (cf - 1)] 27 (0, 0)) := by
      have := blk_set (blk_set (blk_alloc HX1.out (.cells #[.slice a3 os.length c3, .slice (some ⟨b, off + 1, none⟩) (m - 1) (cf - 1)] 27)) 0 (.slice a3 os.length c3)) 1 (.slice (some ⟨b, off + 1, none⟩) (m - 1) (cf - 1))
      simpa using this
    have K : Keep (fun k => k = w.heap.size + 1) w2 (((w2.alloc (.cells #[.slice a3 os.length c3, .slice (some ⟨b, off + 1, none⟩) (m - 1) (cf - 1)] 27)).setCell ⟨w.heap.size + 1, 0, none⟩ (.slice a3 os.length c3)).setCell ⟨w.heap.size + 1, 1, none⟩ (.slice (some ⟨b, off + 1, none⟩) (m - 1) (cf - 1))) := (((Keep.refl (fun k => k = w.heap.size + 1) w2).alloc _).setCell (.inl rfl) _).setCell (.inl rfl) _
    have hB2 : Below w.heap.size w w2 := HB.out.trans (b2.mono (by simp; omega))
    have hB3 : Below w.heap.size w (((w2.alloc (.cells #[.slice a3 os.length c3, .slice (some ⟨b, off + 1, none⟩) (m - 1) (cf - 1)] 27)).setCell ⟨w.heap.size + 1, 0, none⟩ (.slice a3 os.length c3)).setCell ⟨w.heap.size + 1, 1, none⟩ (.slice (some ⟨b, off + 1, none⟩) (m - 1) (cf - 1))) := below_keep hB2 K hB2.size (fun i hi => by omega)
    have r0 := blk_cell hr 0
    have r1 := blk_cell hr 1
    have lo := lv_keep1 L1.out K HX1.out (fun i x => by
      match i with
      | 0 => simp
      | 1 => simp
      | i + 2 => simp)
    rw [List.length_set] at lo
    exact bodyPost_ret (v := .tuple #[.agg #[.slice a3 os.length c3, .slice (some ⟨b, off + 1, none⟩) (m - 1) (cf - 1)], .int .i64 f, .int .i64 0]) (by simp [results, Try.results19, go_sem, r0, r1]) rfl ⟨_, rfl, ⟨_, _, rfl, lo, by have lf := lv_tail (l := fs) (Hrd.out.keep hB3) (by omega) hc2 hbB; rw [← hlm] at lf; exact lf⟩, hB3⟩
end Go.Proofs.Ytlajbgopidllbaa
