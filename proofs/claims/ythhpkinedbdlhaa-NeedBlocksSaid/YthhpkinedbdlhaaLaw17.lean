/- almerylaw17: awake, and the laws NeedPages and NeedMost. -/
import Derived.Test.YthhpkinedbdlhaaNeed4
namespace Go.Proofs.Ythhpkinedbdlhaa
open Go.RowKit Go.Sort
set_option linter.unusedVariables false

theorem lv_new (w : World) (l : List Int) (h : l.length ≤ 100) : LV 0 (w.alloc (.cells (icells l).toArray 3)) (.slice (some ⟨w.heap.size, 0, none⟩) l.length l.length) l := by
  refine ⟨_, _, rfl, Nat.le_refl _, by unfold maxLen; omega, ⟨nofun, fun _ _ => Nat.zero_le _⟩, .inr ⟨_, 0, rfl, fun i hi => ?_⟩⟩
  rw [blk_cell (blk_new w (.cells (icells l).toArray 3))]
  simp [icells, hi, List.getD]
theorem lb_one (w : World) (b : Bool) : LB (w.alloc (.cells #[.bool b] 4)) (.slice (some ⟨w.heap.size, 0, none⟩) 1 1) [b] := by
  refine ⟨_, _, rfl, Nat.le_refl _, by unfold maxLen; omega, .inr ⟨_, 0, rfl, fun i hi => ?_⟩⟩
  have : i = 0 := by simp at hi; omega
  subst this
  exact blk_cell (blk_new w (.cells #[.bool b] 4)) 0
theorem lb_of {w : World} {a : Option Addr} {c : Nat} {zs : List Bool} (hc : zs.length ≤ c) (hm : c ≤ maxLen) (h : zs.length = 0 ∨ ∃ b off, a = some ⟨b, off, none⟩ ∧ ∀ i, i < zs.length → ∃ cs : List Value, cs.length = 1 ∧ (∀ j, j < 1 → w.cell? ⟨b, off + i * 1 + j, none⟩ = cs[j]?) ∧ cs[0]? = some (.bool (zs.getD i false))) : LB w (.slice a zs.length c) zs := by
  refine ⟨a, c, rfl, hc, hm, ?_⟩
  rcases h with h | ⟨b, off, ha, h⟩
  · exact .inl h
  · refine .inr ⟨b, off, ha, fun i hi => ?_⟩
    obtain ⟨cs, _, h1, h2⟩ := h i hi
    have := h1 0 (by omega)
    rw [Nat.mul_one, Nat.add_zero] at this
    exact this.trans h2
theorem lb_nil (w : World) : LB w (.slice none 0 0) [] := ⟨none, 0, rfl, Nat.le_refl _, Nat.zero_le _, .inl rfl⟩
def smallC : Cf := ⟨64, 9, [32], [2], 8, 4, 3, 512⟩
theorem smallC_ok : OkMay smallC := ⟨by decide, by decide, by decide, by decide, by decide, fun i hi => by
  have : i = 0 := by
    have h : i < 1 := hi
    omega
  subst this
  decide, by decide, by decide, by decide⟩
theorem CV.vals {w : World} {v : Value} {c : Cf} (h : CV w v c) : ∃ ac cc ak ck, v = .agg #[.int .i64 c.size, .int .i64 c.pages, .slice ac c.classes.length cc, .slice ak c.keep.length ck, .int .i64 c.step, .int .i64 c.slots, .int .i64 c.gens, .int .i64 c.most] := by
  obtain ⟨ac, cc, ak, ck, e, _⟩ := h
  exact ⟨ac, cc, ak, ck, e⟩
theorem lsmall_any (w : World) : Calls Try.prog 20 #[] w fun e w' => ∃ v, e = .returned v ∧ CV w' v smallC ∧ Below w.heap.size w w' := by
  have r0 := blk_alloc (blk_alloc (blk_new w (.cells #[.int .i64 64, .int .i64 9, .slice (some ⟨w.heap.size + 1, 0, none⟩) 1 1, .slice (some ⟨w.heap.size + 1 + 1, 0, none⟩) 1 1, .int .i64 8, .int .i64 4, .int .i64 3, .int .i64 512] 24)) (.cells #[.int .i64 32] 3)) (.cells #[.int .i64 2] 3)
  have l1 := (lv_new (w.alloc (.cells #[.int .i64 64, .int .i64 9, .slice (some ⟨w.heap.size + 1, 0, none⟩) 1 1, .slice (some ⟨w.heap.size + 1 + 1, 0, none⟩) 1 1, .int .i64 8, .int .i64 4, .int .i64 3, .int .i64 512] 24)) [32] (by decide)).keep ((Below.refl _ _).alloc (Nat.le_refl _) (.cells #[.int .i64 2] 3))
  have l2 := lv_new ((w.alloc (.cells #[.int .i64 64, .int .i64 9, .slice (some ⟨w.heap.size + 1, 0, none⟩) 1 1, .slice (some ⟨w.heap.size + 1 + 1, 0, none⟩) 1 1, .int .i64 8, .int .i64 4, .int .i64 3, .int .i64 512] 24)).alloc (.cells #[.int .i64 32] 3)) [2] (by decide)
  simp only [World.size_alloc] at l1 l2
  have B : Below w.heap.size w (((w.alloc (.cells #[.int .i64 64, .int .i64 9, .slice (some ⟨w.heap.size + 1, 0, none⟩) 1 1, .slice (some ⟨w.heap.size + 1 + 1, 0, none⟩) 1 1, .int .i64 8, .int .i64 4, .int .i64 3, .int .i64 512] 24)).alloc (.cells #[.int .i64 32] 3)).alloc (.cells #[.int .i64 2] 3)) := (((Below.refl w.heap.size w).alloc (Nat.le_refl _) _).alloc (by simp) _).alloc (by simp; omega) _
  have hv : CV (((w.alloc (.cells #[.int .i64 64, .int .i64 9, .slice (some ⟨w.heap.size + 1, 0, none⟩) 1 1, .slice (some ⟨w.heap.size + 1 + 1, 0, none⟩) 1 1, .int .i64 8, .int .i64 4, .int .i64 3, .int .i64 512] 24)).alloc (.cells #[.int .i64 32] 3)).alloc (.cells #[.int .i64 2] 3)) (.agg #[.int .i64 64, .int .i64 9, .slice (some ⟨w.heap.size + 1, 0, none⟩) 1 1, .slice (some ⟨w.heap.size + 1 + 1, 0, none⟩) 1 1, .int .i64 8, .int .i64 4, .int .i64 3, .int .i64 512]) smallC := ⟨_, _, _, _, rfl, l1, l2⟩
  have HV := Lib.hid hv
  have HB := Lib.hid B
  have q0 := blk_cell r0 0
  have q1 := blk_cell r0 1
  have q2 := blk_cell r0 2
  have q3 := blk_cell r0 3
  have q4 := blk_cell r0 4
  have q5 := blk_cell r0 5
  have q6 := blk_cell r0 6
  have q7 := blk_cell r0 7
  clear r0 l1 l2 B hv
  go_enter Try.func20, Try.ntmps20
  go_wp2_with fail
  refine bodyPost_ret (v := .agg #[.int .i64 64, .int .i64 9, .slice (some ⟨w.heap.size + 1, 0, none⟩) 1 1, .slice (some ⟨w.heap.size + 1 + 1, 0, none⟩) 1 1, .int .i64 8, .int .i64 4, .int .i64 3, .int .i64 512]) (by simp [results, Try.results20, go_sem, q0, q1, q2, q3, q4, q5, q6, q7]) rfl ⟨_, rfl, HV.out, HB.out⟩
set_option maxRecDepth 100000 in
set_option maxHeartbeats 4000000 in
theorem lawake (w : World) : Calls Try.prog 8 #[] w fun e w' => e = .returned (.bool true) ∧ Below w.heap.size w w' := by
  go_enter Try.func8, Try.ntmps8
  go_wp2_with fail
  refine (lsmall_any _).mono ?_
  rintro e w1 ⟨v1, rfl, c1, b1⟩
  have C1 := Lib.hid c1
  have B1 := Lib.hid (b1)
  clear c1 b1
  go_wp2_with fail
  have bA := (Below.refl w1.heap.size w1).alloc (Nat.le_refl _) (.cells #[.int .i64 20, .int .i64 100, .int .i64 20, .int .i64 32] 3)
  refine (pages_any _ _ _ smallC [20, 100, 20, 32] (C1.out.below bA) smallC_ok (lv_new w1 [20, 100, 20, 32] (by decide)) (by decide)).mono ?_
  rw [show pagesN smallC [20, 100, 20, 32] = 5 from by decide +kernel, show pagesE smallC [20, 100, 20, 32] = 0 from by decide +kernel]
  rintro e w2 ⟨rfl, b2⟩
  have B2 := Lib.hid (B1.out.trans ((bA.trans (b2.mono bA.size)).mono B1.out.size))
  clear bA b2
  go_wp2_with fail
  refine (lsmall_any _).mono ?_
  rintro e w3 ⟨v3, rfl, c3, b3⟩
  have C3 := Lib.hid c3
  have B3 := Lib.hid (B2.out.trans (b3.mono B2.out.size))
  clear c3 b3
  go_wp2_with fail
  have bA := (Below.refl w3.heap.size w3).alloc (Nat.le_refl _) (.cells #[.int .i64 20] 3)
  have bA2 := bA.alloc bA.size (.cells #[.bool true] 4)
  have hlb := lb_one (w3.alloc (.cells #[.int .i64 20] 3)) true
  simp only [World.size_alloc] at hlb
  refine (most_any _ _ _ _ smallC [20] [true] (C3.out.below bA2) smallC_ok ((lv_new w3 [20] (by decide)).keep ((Below.refl _ _).alloc (Nat.le_refl _) _)) (by decide) hlb).mono ?_
  rw [show mostN smallC [20] [true] = 4 from by decide +kernel, show mostE smallC [20] [true] = 0 from by decide +kernel]
  rintro e w4 ⟨rfl, b2⟩
  have B4 := Lib.hid (B3.out.trans ((bA2.trans (b2.mono bA2.size)).mono B3.out.size))
  clear bA bA2 b2 hlb
  go_wp2_with fail
  refine (lsmall_any _).mono ?_
  rintro e w5 ⟨v5, rfl, c5, b5⟩
  have C5 := Lib.hid c5
  have B5 := Lib.hid (B4.out.trans (b5.mono B4.out.size))
  clear c5 b5
  go_wp2_with fail
  have bA := (Below.refl w5.heap.size w5).alloc (Nat.le_refl _) (.cells #[.int .i64 0] 3)
  refine (pages_any _ _ _ smallC [0] (C5.out.below bA) smallC_ok (lv_new w5 [0] (by decide)) (by decide)).mono ?_
  rw [show pagesN smallC [0] = 0 from by decide +kernel, show pagesE smallC [0] = 3 from by decide +kernel]
  rintro e w6 ⟨rfl, b2⟩
  have B6 := Lib.hid (B5.out.trans ((bA.trans (b2.mono bA.size)).mono B5.out.size))
  clear bA b2
  go_wp2_with fail
  refine (lsmall_any _).mono ?_
  rintro e w7 ⟨v7, rfl, c7, b7⟩
  have C7 := Lib.hid c7
  have B7 := Lib.hid (B6.out.trans (b7.mono B6.out.size))
  clear c7 b7
  go_wp2_with fail
  refine (most_any _ _ _ _ smallC [] [] C7.out smallC_ok (lv_nil 0 _) (by decide) (lb_nil _)).mono ?_
  rw [show mostN smallC [] [] = 0 from by decide +kernel, show mostE smallC [] [] = 1 from by decide +kernel]
  rintro e w8 ⟨rfl, b2⟩
  have B8 := Lib.hid (B7.out.trans (b2.mono B7.out.size))
  clear b2
  go_wp2_with fail
  refine (lsmall_any _).mono ?_
  rintro e w9 ⟨v9, rfl, c9, b9⟩
  have C9 := Lib.hid c9
  have B9 := Lib.hid (B8.out.trans (b9.mono B8.out.size))
  clear c9 b9
  go_wp2_with fail
  have bA := (Below.refl w9.heap.size w9).alloc (Nat.le_refl _) (.cells #[.int .i64 20, .int .i64 100, .int .i64 20] 3)
  refine (live_any _ _ _ smallC [20, 100, 20] 0 (C9.out.below bA) (lv_new w9 [20, 100, 20] (by decide)) (by decide)).mono ?_
  rw [show liveS smallC [20, 100, 20] 0 = 2 from by decide +kernel]
  rintro e w10 ⟨rfl, b2⟩
  have B10 := Lib.hid (B9.out.trans ((bA.trans (b2.mono bA.size)).mono B9.out.size))
  clear bA b2
  go_wp2_with fail
  go_ret
  exact ⟨rfl, B10.out⟩
set_option maxRecDepth 100000 in
set_option maxHeartbeats 4000000 in
theorem lawPages (w : World) (v vl : Value) (c : Cf) (l : List Int) (h : CV w v c) (hl : LV 0 w vl l) : Calls Try.prog 3 #[v, vl] w fun e w' => e = .returned (.bool true) ∧ Below w.heap.size w w' := by
  have HC := Lib.hid h
  have HL := Lib.hid hl
  obtain ⟨ac, cc, ak, ck, rfl, h1, h2⟩ := h
  obtain ⟨al, cl, rfl, hl1, hl2, hl3, hl4⟩ := hl
  unfold maxLen at hl2
  have B0 := Lib.hid ((Below.refl w.heap.size w).alloc (Nat.le_refl _) (.cells #[.int .i64 c.size, .int .i64 c.pages, .slice ac c.classes.length cc, .slice ak c.keep.length ck, .int .i64 c.step, .int .i64 c.slots, .int .i64 c.gens, .int .i64 c.most] 24))
  have X0 := Lib.hid (blk_new w (.cells #[.int .i64 c.size, .int .i64 c.pages, .slice ac c.classes.length cc, .slice ak c.keep.length ck, .int .i64 c.step, .int .i64 c.slots, .int .i64 c.gens, .int .i64 c.most] 24))
  have hcap := h1.caps
  clear h1 h2 hl3 hl4
  go_enter Try.func3, Try.ntmps3
  go_wp2_with fail
  refine (lawake _).mono ?_
  rintro e w1 ⟨rfl, b1⟩
  have B1 := Lib.hid (B0.out.trans (b1.mono B0.out.size))
  have X1 := Lib.hid (below_blk b1 X0.out (blk_lt X0.out))
  have x0 := blk_cell X1.out 0
  have x1 := blk_cell X1.out 1
  have x2 := blk_cell X1.out 2
  have x3 := blk_cell X1.out 3
  have x4 := blk_cell X1.out 4
  have x5 := blk_cell X1.out 5
  have x6 := blk_cell X1.out 6
  have x7 := blk_cell X1.out 7
  clear b1
  go_wp2_with fail
  refine (rmay03_any _ _ c (HC.out.below B1.out)).mono ?_
  rintro e w2 ⟨r, rfl, hr, b2⟩
  have B2 := Lib.hid (B1.out.trans (b2.mono B1.out.size))
  have X2 := Lib.hid (below_blk b2 X1.out (blk_lt X1.out))
  clear b2 x0 x1 x2 x3 x4 x5 x6 x7
  by_cases hr0 : r = 0
  · have ok := hr hr0
    subst hr0
    clear hr
    by_cases h60 : (60 : Int) < l.length
    · clear ok
      go_wp2_with fail
      go_ret
      exact ⟨rfl, B2.out⟩
    · have hlen : l.length ≤ 1000 := by omega
      have y0 := blk_cell X2.out 0
      have y1 := blk_cell X2.out 1
      have y2 := blk_cell X2.out 2
      have y3 := blk_cell X2.out 3
      have y4 := blk_cell X2.out 4
      have y5 := blk_cell X2.out 5
      have y6 := blk_cell X2.out 6
      have y7 := blk_cell X2.out 7
      go_wp2_with fail
      refine (pages_any _ _ _ c l (HC.out.below B2.out) ok (HL.out.keep B2.out) hlen).mono ?_
      rintro e w3 ⟨rfl, b3⟩
      have B3 := Lib.hid (B2.out.trans (b3.mono B2.out.size))
      have X3 := Lib.hid (below_blk b3 X2.out (blk_lt X2.out))
      clear b3 y0 y1 y2 y3 y4 y5 y6 y7
      have y0 := blk_cell X3.out 0
      have y1 := blk_cell X3.out 1
      have y2 := blk_cell X3.out 2
      have y3 := blk_cell X3.out 3
      have y4 := blk_cell X3.out 4
      have y5 := blk_cell X3.out 5
      have y6 := blk_cell X3.out 6
      have y7 := blk_cell X3.out 7
      go_wp2_with fail
      refine (rpages_any _ _ _ c l (HC.out.below B3.out) ok (HL.out.keep B3.out) hlen).mono ?_
      rintro e w4 ⟨rfl, b4⟩
      have B4 := Lib.hid (B3.out.trans (b4.mono B3.out.size))
      have X4 := Lib.hid (below_blk b4 X3.out (blk_lt X3.out))
      clear b4 y0 y1 y2 y3 y4 y5 y6 y7
      generalize pagesN c l = pn
      generalize pagesE c l = pe
      clear ok
      go_wp2_with fail
      go_ret
      exact ⟨rfl, B4.out⟩
  · go_wp2_with fail
    go_ret
    exact ⟨rfl, B2.out⟩
set_option maxRecDepth 100000 in
set_option maxHeartbeats 4000000 in
theorem lawMost (w : World) (v vl vm : Value) (c : Cf) (l : List Int) (mv : List Bool) (h : CV w v c) (hl : LV 0 w vl l) (hm : LB w vm mv) : Calls Try.prog 4 #[v, vl, vm] w fun e w' => e = .returned (.bool true) ∧ Below w.heap.size w w' := by
  have HC := Lib.hid h
  have HL := Lib.hid hl
  obtain ⟨ac, cc, ak, ck, rfl, h1, h2⟩ := h
  obtain ⟨al, cl, rfl, hl1, hl2, hl3, hl4⟩ := hl
  unfold maxLen at hl2
  have B0 := Lib.hid ((Below.refl w.heap.size w).alloc (Nat.le_refl _) (.cells #[.int .i64 c.size, .int .i64 c.pages, .slice ac c.classes.length cc, .slice ak c.keep.length ck, .int .i64 c.step, .int .i64 c.slots, .int .i64 c.gens, .int .i64 c.most] 24))
  have X0 := Lib.hid (blk_new w (.cells #[.int .i64 c.size, .int .i64 c.pages, .slice ac c.classes.length cc, .slice ak c.keep.length ck, .int .i64 c.step, .int .i64 c.slots, .int .i64 c.gens, .int .i64 c.most] 24))
  have hcap := h1.caps
  clear h1 h2 hl3 hl4
  have HM := Lib.hid hm
  obtain ⟨am, cm, rfl, hm1, hm2, hm3⟩ := hm
  unfold maxLen at hm2
  clear hm3
  go_enter Try.func4, Try.ntmps4
  go_wp2_with fail
  refine (lawake _).mono ?_
  rintro e w1 ⟨rfl, b1⟩
  have B1 := Lib.hid (B0.out.trans (b1.mono B0.out.size))
  have X1 := Lib.hid (below_blk b1 X0.out (blk_lt X0.out))
  have x0 := blk_cell X1.out 0
  have x1 := blk_cell X1.out 1
  have x2 := blk_cell X1.out 2
  have x3 := blk_cell X1.out 3
  have x4 := blk_cell X1.out 4
  have x5 := blk_cell X1.out 5
  have x6 := blk_cell X1.out 6
  have x7 := blk_cell X1.out 7
  clear b1
  go_wp2_with fail
  refine (rmay03_any _ _ c (HC.out.below B1.out)).mono ?_
  rintro e w2 ⟨r, rfl, hr, b2⟩
  have B2 := Lib.hid (B1.out.trans (b2.mono B1.out.size))
  have X2 := Lib.hid (below_blk b2 X1.out (blk_lt X1.out))
  clear b2 x0 x1 x2 x3 x4 x5 x6 x7
  by_cases hr0 : r = 0
  · have ok := hr hr0
    subst hr0
    clear hr
    by_cases h60 : (60 : Int) < l.length
    · clear ok
      go_wp2_with fail
      go_ret
      exact ⟨rfl, B2.out⟩
    · by_cases h61 : (60 : Int) < mv.length
      · clear ok
        go_wp2_with fail
        go_ret
        exact ⟨rfl, B2.out⟩
      · have hlen : l.length ≤ 1000 := by omega
        have y0 := blk_cell X2.out 0
        have y1 := blk_cell X2.out 1
        have y2 := blk_cell X2.out 2
        have y3 := blk_cell X2.out 3
        have y4 := blk_cell X2.out 4
        have y5 := blk_cell X2.out 5
        have y6 := blk_cell X2.out 6
        have y7 := blk_cell X2.out 7
        go_wp2_with fail
        refine (most_any _ _ _ _ c l mv (HC.out.below B2.out) ok (HL.out.keep B2.out) hlen (HM.out.keep B2.out)).mono ?_
        rintro e w3 ⟨rfl, b3⟩
        have B3 := Lib.hid (B2.out.trans (b3.mono B2.out.size))
        have X3 := Lib.hid (below_blk b3 X2.out (blk_lt X2.out))
        clear b3 y0 y1 y2 y3 y4 y5 y6 y7
        have y0 := blk_cell X3.out 0
        have y1 := blk_cell X3.out 1
        have y2 := blk_cell X3.out 2
        have y3 := blk_cell X3.out 3
        have y4 := blk_cell X3.out 4
        have y5 := blk_cell X3.out 5
        have y6 := blk_cell X3.out 6
        have y7 := blk_cell X3.out 7
        go_wp2_with fail
        refine (rmost_any _ _ _ _ c l mv (HC.out.below B3.out) ok (HL.out.keep B3.out) hlen (HM.out.keep B3.out)).mono ?_
        rintro e w4 ⟨rfl, b4⟩
        have B4 := Lib.hid (B3.out.trans (b4.mono B3.out.size))
        have X4 := Lib.hid (below_blk b4 X3.out (blk_lt X3.out))
        clear b4 y0 y1 y2 y3 y4 y5 y6 y7
        generalize mostN c l mv = pn
        generalize mostE c l mv = pe
        have hp16 := ok.pos.2
        clear ok
        go_wp2_with fail
        go_loopw [12] (fun i wr => ∃ j : Nat, j ≤ c.classes.length + 2 ∧ i = .int .i64 ((j : Int) - 1) ∧ Hid (Below w.heap.size w wr) ∧ Hid (wr.heap[w.heap.size]? = some (.cells #[.int .i64 c.size, .int .i64 c.pages, .slice ac c.classes.length cc, .slice ak c.keep.length ck, .int .i64 c.step, .int .i64 c.slots, .int .i64 c.gens, .int .i64 c.most] 24 (0, 0)))) (fun i _ => (c.classes.length + 1 - intOf i).toNat)
        case atStart => exact ⟨0, by omega, rfl, B4, X4⟩
        case round =>
          obtain ⟨j, hj, rfl, BR, HX⟩ := hrel
          have y2 := blk_cell HX.out 2
          by_cases hlt : j < c.classes.length + 2
          · obtain ⟨k, hk⟩ : ∃ k : Int, k = (j : Int) - 1 := ⟨_, rfl⟩
            have hk1 : k ≤ c.classes.length := by omega
            have hk2 : -1 ≤ k ∧ k ≤ 16 := by omega
            have Hk : Hid (k + 1 = ((j + 1 : Nat) : Int) - 1) := Lib.hid (by omega)
            have Hk3 : Hid ((c.classes.length + 1 - (k + 1)).toNat < (c.classes.length + 1 - k).toNat) := Lib.hid (by omega)
            rw [← hk]
            have q0 := cell_regrown (blk_cell HX.out 0)
            have q1 := cell_regrown (blk_cell HX.out 1)
            have q2 := cell_regrown (blk_cell HX.out 2)
            have q3 := cell_regrown (blk_cell HX.out 3)
            have q4 := cell_regrown (blk_cell HX.out 4)
            have q5 := cell_regrown (blk_cell HX.out 5)
            have q6 := cell_regrown (blk_cell HX.out 6)
            have q7 := cell_regrown (blk_cell HX.out 7)
            have cHQ : ∀ (d : Nat) (os : Array Obj), Calls Try.prog 14 #[.agg #[.int .i64 c.size, .int .i64 c.pages, .slice ac c.classes.length cc, .slice ak c.keep.length ck, .int .i64 c.step, .int .i64 c.slots, .int .i64 c.gens, .int .i64 c.most], .slice al l.length cl, .int .i64 k] (grow (redrawn wr d) os) fun e w'' => e = .returned (.int .i64 (liveS c l k)) ∧ ∃ p : Regrown, w'' = grow (redrawn wr p.d) p.os := fun d os =>
              Calls.regrown_of (live_any _ _ _ c l k (HC.out.below (BR.out.trans ((below_regrown wr d os).mono BR.out.size))) (HL.out.keep (BR.out.trans ((below_regrown wr d os).mono BR.out.size))) hlen)
            have HQ := Lib.hid cHQ
            clear cHQ
            have cHR : ∀ (d : Nat) (os : Array Obj), Calls Try.prog 15 #[.agg #[.int .i64 c.size, .int .i64 c.pages, .slice ac c.classes.length cc, .slice ak c.keep.length ck, .int .i64 c.step, .int .i64 c.slots, .int .i64 c.gens, .int .i64 c.most], .slice al l.length cl, .int .i64 k] (grow (redrawn wr d) os) fun e w'' => e = .returned (.int .i64 (liveS c l k)) ∧ ∃ p : Regrown, w'' = grow (redrawn wr p.d) p.os := fun d os =>
              Calls.regrown_of (rlive_any _ _ _ c l k (HC.out.below (BR.out.trans ((below_regrown wr d os).mono BR.out.size))) (HL.out.keep (BR.out.trans ((below_regrown wr d os).mono BR.out.size))) hlen)
            have HR := Lib.hid cHR
            clear cHR
            generalize liveS c l k = li at HQ HR
            clear hk
            go_wp2_with fail
            refine wp_region_quiet_below (by kernel_rfl) (by kernel_rfl) ?_
            repeat (first | go_big_quiet_step (first | with_reducible exact HQ.out _ _ | with_reducible exact HR.out _ _) | quiet_step (first | with_reducible exact HQ.out _ _ | with_reducible exact HR.out _ _))
            refine wpQuiet_nil ?_
            intro _ hw'
            obtain ⟨⟨dq, osq⟩, hw''⟩ := hw'
            subst hw''
            have b5 := below_regrown wr dq osq
            have X5 := Lib.hid (below_blk b5 HX.out (blk_lt HX.out))
            have B5 := Lib.hid (BR.out.trans (b5.mono BR.out.size))
            generalize grow (redrawn wr dq) osq = w5 at X5 B5 ⊢
            clear b5
            go_wp2_with fail
            go_roundw
            case rel => exact ⟨j + 1, by omega, by rw [Hk.out], B5, X5⟩
            case measure => simp [intOf]; have := Hk3.out; omega
          · obtain rfl : j = c.classes.length + 2 := by omega
            have e1 : (((c.classes.length + 2 : Nat) : Int) - 1) = (c.classes.length : Int) + 1 := by omega
            rw [e1]
            clear e1
            go_wp2_with fail
            go_ret
            exact ⟨rfl, BR.out⟩
  · go_wp2_with fail
    go_ret
    exact ⟨rfl, B2.out⟩
end Go.Proofs.Ythhpkinedbdlhaa
