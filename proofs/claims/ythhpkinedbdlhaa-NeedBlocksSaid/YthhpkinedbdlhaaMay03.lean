/- The contract of almeryref03's May: where it tells 0 the layout may be. -/
import Derived.Test.YthhpkinedbdlhaaConf
import Derived.Lib.QuietBelow
namespace Go.Proofs.Ythhpkinedbdlhaa
open Go.RowKit Go.Sort
set_option linter.unusedVariables false

/-- which layouts there may be -/
structure OkMay (c : Cf) : Prop where
  size1 : 64 ≤ c.size
  size2 : c.size ≤ 4096
  size3 : c.size % 8 = 0
  classes : mayB c.classes c.size = true
  keepn : c.keep.length = c.classes.length
  keep : ∀ i, i < c.keep.length → 0 ≤ c.keep.getD i 0 ∧ c.keep.getD i 0 ≤ 1024
  step : 1 ≤ c.step ∧ c.step ≤ 65536
  most1 : 1 ≤ c.most
  most2 : c.most ≤ c.size * (c.size / 8)
theorem largeC_pos {s : Int} (h : ¬ largeC s = 0) : 64 ≤ s ∧ s ≤ 4096 ∧ s % 8 = 0 ∧ largeC s = s * (s / 8) := by
  by_cases h1 : s < 64 ∨ 4096 < s ∨ s % 8 ≠ 0
  · exact absurd (largeC_no h1) h
  · exact ⟨by omega, by omega, by omega, largeC_yes h1⟩
theorem mayE_zero {l : List Int} {page : Int} (h : mayE l page = 0) : mayB l page = true := by
  unfold mayE at h
  split at h
  · assumption
  · cases h

set_option maxRecDepth 100000 in
set_option maxHeartbeats 4000000 in
theorem rmay03_any (w : World) (v : Value) (c : Cf) (h : CV w v c) : Calls Try.prog 9 #[v] w fun e w' => ∃ r, e = .returned (.int .i64 r) ∧ (r = 0 → OkMay c) ∧ Below w.heap.size w w' := by
  have HC := Lib.hid h
  obtain ⟨size, pages, classes, keep, step, slots, gens, most⟩ := c
  obtain ⟨ac, cc, ak, ck, rfl, h1, h2⟩ := h
  simp only at h1 h2 ⊢
  have hb : Below w.heap.size w (w.alloc (.cells #[.int .i64 size, .int .i64 pages, .slice ac classes.length cc, .slice ak keep.length ck, .int .i64 step, .int .i64 slots, .int .i64 gens, .int .i64 most] 24)) := (Below.refl _ _).alloc (Nat.le_refl _) _
  have X0 : Hid ((w.alloc (.cells #[.int .i64 size, .int .i64 pages, .slice ac classes.length cc, .slice ak keep.length ck, .int .i64 step, .int .i64 slots, .int .i64 gens, .int .i64 most] 24)).heap[w.heap.size]? = some (.cells #[.int .i64 size, .int .i64 pages, .slice ac classes.length cc, .slice ak keep.length ck, .int .i64 step, .int .i64 slots, .int .i64 gens, .int .i64 most] 24 (0, 0))) := Lib.hid (blk_new _ _)
  have H1 := Lib.hid h1
  have H2 := Lib.hid h2
  have hcap1 := h1.caps
  have hcap2 := h2.caps
  have HB := Lib.hid hb
  clear h1 h2 hb
  by_cases hL : largeC size = 0
  · go_enter Try.func9, Try.ntmps9
    go_wp2_with fail
    refine (large_any _ _ _ (HC.out.below HB.out)).mono ?_
    simp only
    rintro e w1 ⟨rfl, b1⟩
    rw [hL]
    have B1 := Lib.hid (HB.out.trans (b1.mono HB.out.size))
    clear b1
    go_wp2_with fail
    go_ret
    exact ⟨_, rfl, fun e => absurd e (by decide), B1.out⟩
  · obtain ⟨hs1, hs2, hs3, hs4⟩ := largeC_pos hL
    obtain ⟨lg, hlg⟩ : ∃ lg, lg = largeC size := ⟨_, rfl⟩
    have hlg0 : (lg == 0) = false := beq_eq_false_iff_ne.2 (by rw [hlg]; exact hL)
    have HLG := Lib.hid hlg
    have HS4 := Lib.hid hs4
    clear hlg hL hs4
    by_cases hp1 : pages < 1
    · go_enter Try.func9, Try.ntmps9
      go_wp2_with fail
      refine (large_any _ _ _ (HC.out.below HB.out)).mono ?_
      simp only
      rintro e w1 ⟨rfl, b1⟩
      rw [← HLG.out]
      have B1 := Lib.hid (HB.out.trans (b1.mono HB.out.size))
      have X1 := Lib.hid (below_blk b1 X0.out (by simp))
      have u0 := blk_cell X1.out 0
      have u1 := blk_cell X1.out 1
      have u2 := blk_cell X1.out 2
      have u3 := blk_cell X1.out 3
      have hz1 := b1.size
      simp only [World.size_alloc] at hz1
      clear b1
      go_wp2_with fail
      go_ret
      exact ⟨_, rfl, fun e => absurd e (by decide), B1.out⟩
    · have dp1 : decide (pages < 1) = false := by simp; omega
      by_cases hp2 : 1024 < pages
      · go_enter Try.func9, Try.ntmps9
        go_wp2_with fail
        refine (large_any _ _ _ (HC.out.below HB.out)).mono ?_
        simp only
        rintro e w1 ⟨rfl, b1⟩
        rw [← HLG.out]
        have B1 := Lib.hid (HB.out.trans (b1.mono HB.out.size))
        have X1 := Lib.hid (below_blk b1 X0.out (by simp))
        have u0 := blk_cell X1.out 0
        have u1 := blk_cell X1.out 1
        have u2 := blk_cell X1.out 2
        have u3 := blk_cell X1.out 3
        have hz1 := b1.size
        simp only [World.size_alloc] at hz1
        clear b1
        go_wp2_with fail
        go_ret
        exact ⟨_, rfl, fun e => absurd e (by decide), B1.out⟩
      · have dp2 : decide (1024 < pages) = false := by simp; omega
        obtain ⟨me, hme⟩ : ∃ me, me = mayE classes size := ⟨_, rfl⟩
        have HME := Lib.hid hme
        clear hme hp1 hp2
        by_cases hm0 : me = 0
        · subst hm0
          have HMB := Lib.hid (mayE_zero HME.out.symm)
          by_cases hkn : keep.length = classes.length
          · have HKN := Lib.hid hkn
            have ekn : ((keep.length : Int) != (classes.length : Int)) = false := by simp [hkn]
            clear hkn
            go_enter Try.func9, Try.ntmps9
            go_wp2_with fail
            refine (large_any _ _ _ (HC.out.below HB.out)).mono ?_
            simp only
            rintro e w1 ⟨rfl, b1⟩
            rw [← HLG.out]
            have B1 := Lib.hid (HB.out.trans (b1.mono HB.out.size))
            have X1 := Lib.hid (below_blk b1 X0.out (by simp))
            have u0 := blk_cell X1.out 0
            have u1 := blk_cell X1.out 1
            have u2 := blk_cell X1.out 2
            have u3 := blk_cell X1.out 3
            have hz1 := b1.size
            simp only [World.size_alloc] at hz1
            clear b1
            go_wp2_with fail
            refine (rmay02_any 0 _ _ _ size (H1.out.keep B1.out)).mono ?_
            rintro e w2 ⟨rfl, k2⟩
            have b2 := below_of_keepF k2
            rw [← HME.out]
            have B2 := Lib.hid (B1.out.trans (b2.mono B1.out.size))
            have X2 := Lib.hid (below_blk b2 X1.out (by omega))
            have v0 := blk_cell X2.out 0
            have v2 := blk_cell X2.out 2
            have v3 := blk_cell X2.out 3
            have hz2 := b2.size
            clear b2 k2 u0 u1 u2 u3
            go_wp2_with fail
            go_loopw [3] (fun i wr => ∃ k : Nat, k ≤ keep.length ∧ i = .int .i64 k ∧ Hid (∀ j, j < k → 0 ≤ keep.getD j 0 ∧ keep.getD j 0 ≤ 1024) ∧ wr.heap[w.heap.size]? = some (.cells #[.int .i64 size, .int .i64 pages, .slice ac classes.length cc, .slice ak keep.length ck, .int .i64 step, .int .i64 slots, .int .i64 gens, .int .i64 most] 24 (0, 0)) ∧ Below w.heap.size w wr) (fun i _ => keep.length - (intOf i).toNat)
            case atStart => exact ⟨0, Nat.zero_le _, rfl, Lib.hid (fun j hj => absurd hj (Nat.not_lt_zero j)), X2.out, B2.out⟩
            case round =>
              obtain ⟨k, hk, rfl, hno, hx, br⟩ := hrel
              have y3 := blk_cell hx 3
              by_cases hlt : k < keep.length
              · have E := H2.out.elem hlt
                obtain ⟨gl, off, c', hv, hel⟩ := E
                cases hv
                have z0 := hel _ br
                clear hel
                have HX := Lib.hid hx
                clear hx
                have HST := Lib.hid (fun (h : 0 ≤ keep.getD k 0 ∧ keep.getD k 0 ≤ 1024) (j : Nat) (hj : j < k + 1) => (show 0 ≤ keep.getD j 0 ∧ keep.getD j 0 ≤ 1024 from if e : j = k then e ▸ h else hno.out j (by omega)))
                generalize keep.getD k 0 = x at z0 HST
                by_cases hx1 : x < 0
                · go_wp2_with fail
                  go_ret
                  exact ⟨_, rfl, fun e => absurd e (by decide), br⟩
                · by_cases hx2 : 1024 < x
                  · go_wp2_with fail
                    go_ret
                    exact ⟨_, rfl, fun e => absurd e (by decide), br⟩
                  · go_wp2_with fail
                    go_roundw
                    case rel => exact ⟨k + 1, hlt, by go_num, Lib.hid (HST.out ⟨by omega, by omega⟩), HX.out, br⟩
                    case measure => simp [intOf]; omega
              · obtain rfl : k = keep.length := by omega
                have q0 := cell_regrown (blk_cell hx 0)
                have q1 := cell_regrown (blk_cell hx 1)
                have q2 := cell_regrown (blk_cell hx 2)
                have q3 := cell_regrown (blk_cell hx 3)
                have q4 := cell_regrown (blk_cell hx 4)
                have q5 := cell_regrown (blk_cell hx 5)
                have q6 := cell_regrown (blk_cell hx 6)
                have q7 := cell_regrown (blk_cell hx 7)
                have cL : ∀ (d : Nat) (os : Array Obj), Calls Try.prog 21 #[.agg #[.int .i64 size, .int .i64 pages, .slice ac classes.length cc, .slice ak keep.length ck, .int .i64 step, .int .i64 slots, .int .i64 gens, .int .i64 most]] (grow (redrawn wr d) os) fun e w'' => e = .returned (.int .i64 lg) ∧ ∃ p : Regrown, w'' = grow (redrawn wr p.d) p.os := fun d os => by
                  rw [HLG.out]
                  exact Calls.regrown_of (large_any (grow (redrawn wr d) os) _ ⟨size, pages, classes, keep, step, slots, gens, most⟩ (HC.out.below (br.trans ((below_regrown wr d os).mono br.size))))
                have HL := Lib.hid cL
                clear cL hx
                by_cases g0 : step < 1
                · have d0 : decide (step < 1) = true := decide_eq_true g0
                  go_wp2_with fail
                  refine wp_region_quiet_below (by kernel_rfl) (by kernel_rfl) ?_
                  repeat (first | go_big_quiet_step (exact HL.out _ _) | quiet_step (exact HL.out _ _))
                  refine wpQuiet_nil ?_
                  intro _ hw'
                  obtain ⟨⟨dq, osq⟩, hw''⟩ := hw'
                  subst hw''
                  have B5 := br.trans ((below_regrown wr dq osq).mono br.size)
                  go_wp2_with fail
                  go_ret
                  exact ⟨_, rfl, fun e => absurd e (by decide), B5⟩
                · have d0 : decide (step < 1) = false := decide_eq_false g0
                  by_cases g1 : 65536 < step
                  · have d1 : decide (65536 < step) = true := decide_eq_true g1
                    go_wp2_with fail
                    refine wp_region_quiet_below (by kernel_rfl) (by kernel_rfl) ?_
                    repeat (first | go_big_quiet_step (exact HL.out _ _) | quiet_step (exact HL.out _ _))
                    refine wpQuiet_nil ?_
                    intro _ hw'
                    obtain ⟨⟨dq, osq⟩, hw''⟩ := hw'
                    subst hw''
                    have B5 := br.trans ((below_regrown wr dq osq).mono br.size)
                    go_wp2_with fail
                    go_ret
                    exact ⟨_, rfl, fun e => absurd e (by decide), B5⟩
                  · have d1 : decide (65536 < step) = false := decide_eq_false g1
                    by_cases g2 : slots < 1
                    · have d2 : decide (slots < 1) = true := decide_eq_true g2
                      go_wp2_with fail
                      refine wp_region_quiet_below (by kernel_rfl) (by kernel_rfl) ?_
                      repeat (first | go_big_quiet_step (exact HL.out _ _) | quiet_step (exact HL.out _ _))
                      refine wpQuiet_nil ?_
                      intro _ hw'
                      obtain ⟨⟨dq, osq⟩, hw''⟩ := hw'
                      subst hw''
                      have B5 := br.trans ((below_regrown wr dq osq).mono br.size)
                      go_wp2_with fail
                      go_ret
                      exact ⟨_, rfl, fun e => absurd e (by decide), B5⟩
                    · have d2 : decide (slots < 1) = false := decide_eq_false g2
                      by_cases g3 : 4096 < slots
                      · have d3 : decide (4096 < slots) = true := decide_eq_true g3
                        go_wp2_with fail
                        refine wp_region_quiet_below (by kernel_rfl) (by kernel_rfl) ?_
                        repeat (first | go_big_quiet_step (exact HL.out _ _) | quiet_step (exact HL.out _ _))
                        refine wpQuiet_nil ?_
                        intro _ hw'
                        obtain ⟨⟨dq, osq⟩, hw''⟩ := hw'
                        subst hw''
                        have B5 := br.trans ((below_regrown wr dq osq).mono br.size)
                        go_wp2_with fail
                        go_ret
                        exact ⟨_, rfl, fun e => absurd e (by decide), B5⟩
                      · have d3 : decide (4096 < slots) = false := decide_eq_false g3
                        by_cases g4 : gens < 1
                        · have d4 : decide (gens < 1) = true := decide_eq_true g4
                          go_wp2_with fail
                          refine wp_region_quiet_below (by kernel_rfl) (by kernel_rfl) ?_
                          repeat (first | go_big_quiet_step (exact HL.out _ _) | quiet_step (exact HL.out _ _))
                          refine wpQuiet_nil ?_
                          intro _ hw'
                          obtain ⟨⟨dq, osq⟩, hw''⟩ := hw'
                          subst hw''
                          have B5 := br.trans ((below_regrown wr dq osq).mono br.size)
                          go_wp2_with fail
                          go_ret
                          exact ⟨_, rfl, fun e => absurd e (by decide), B5⟩
                        · have d4 : decide (gens < 1) = false := decide_eq_false g4
                          by_cases g5 : 1023 < gens
                          · have d5 : decide (1023 < gens) = true := decide_eq_true g5
                            go_wp2_with fail
                            refine wp_region_quiet_below (by kernel_rfl) (by kernel_rfl) ?_
                            repeat (first | go_big_quiet_step (exact HL.out _ _) | quiet_step (exact HL.out _ _))
                            refine wpQuiet_nil ?_
                            intro _ hw'
                            obtain ⟨⟨dq, osq⟩, hw''⟩ := hw'
                            subst hw''
                            have B5 := br.trans ((below_regrown wr dq osq).mono br.size)
                            go_wp2_with fail
                            go_ret
                            exact ⟨_, rfl, fun e => absurd e (by decide), B5⟩
                          · have d5 : decide (1023 < gens) = false := decide_eq_false g5
                            by_cases g6 : most < 1
                            · have d6 : decide (most < 1) = true := decide_eq_true g6
                              go_wp2_with fail
                              refine wp_region_quiet_below (by kernel_rfl) (by kernel_rfl) ?_
                              repeat (first | go_big_quiet_step (exact HL.out _ _) | quiet_step (exact HL.out _ _))
                              refine wpQuiet_nil ?_
                              intro _ hw'
                              obtain ⟨⟨dq, osq⟩, hw''⟩ := hw'
                              subst hw''
                              have B5 := br.trans ((below_regrown wr dq osq).mono br.size)
                              go_wp2_with fail
                              go_ret
                              exact ⟨_, rfl, fun e => absurd e (by decide), B5⟩
                            · have d6 : decide (most < 1) = false := decide_eq_false g6
                              by_cases g7 : lg < most
                              · have d7 : decide (lg < most) = true := decide_eq_true g7
                                go_wp2_with fail
                                refine wp_region_quiet_below (by kernel_rfl) (by kernel_rfl) ?_
                                repeat (first | go_big_quiet_step (exact HL.out _ _) | quiet_step (exact HL.out _ _))
                                refine wpQuiet_nil ?_
                                intro _ hw'
                                obtain ⟨⟨dq, osq⟩, hw''⟩ := hw'
                                subst hw''
                                have B5 := br.trans ((below_regrown wr dq osq).mono br.size)
                                go_wp2_with fail
                                go_ret
                                exact ⟨_, rfl, fun e => absurd e (by decide), B5⟩
                              · have d7 : decide (lg < most) = false := decide_eq_false g7
                                go_wp2_with fail
                                refine wp_region_quiet_below (by kernel_rfl) (by kernel_rfl) ?_
                                repeat (first | go_big_quiet_step (exact HL.out _ _) | quiet_step (exact HL.out _ _))
                                refine wpQuiet_nil ?_
                                intro _ hw'
                                obtain ⟨⟨dq, osq⟩, hw''⟩ := hw'
                                subst hw''
                                have B5 := br.trans ((below_regrown wr dq osq).mono br.size)
                                go_wp2_with fail
                                go_ret
                                exact ⟨_, rfl, fun _ => ⟨hs1, hs2, hs3, HMB.out, HKN.out, hno.out, ⟨by omega, by omega⟩, by show 1 ≤ most; omega, by show most ≤ size * (size / 8); have := HS4.out; have := HLG.out; omega⟩, B5⟩
          · have ekn : ((keep.length : Int) != (classes.length : Int)) = true := by simp; omega
            clear hkn
            go_enter Try.func9, Try.ntmps9
            go_wp2_with fail
            refine (large_any _ _ _ (HC.out.below HB.out)).mono ?_
            simp only
            rintro e w1 ⟨rfl, b1⟩
            rw [← HLG.out]
            have B1 := Lib.hid (HB.out.trans (b1.mono HB.out.size))
            have X1 := Lib.hid (below_blk b1 X0.out (by simp))
            have u0 := blk_cell X1.out 0
            have u1 := blk_cell X1.out 1
            have u2 := blk_cell X1.out 2
            have u3 := blk_cell X1.out 3
            have hz1 := b1.size
            simp only [World.size_alloc] at hz1
            clear b1
            go_wp2_with fail
            refine (rmay02_any 0 _ _ _ size (H1.out.keep B1.out)).mono ?_
            rintro e w2 ⟨rfl, k2⟩
            have b2 := below_of_keepF k2
            rw [← HME.out]
            have B2 := Lib.hid (B1.out.trans (b2.mono B1.out.size))
            have X2 := Lib.hid (below_blk b2 X1.out (by omega))
            have v0 := blk_cell X2.out 0
            have v2 := blk_cell X2.out 2
            have v3 := blk_cell X2.out 3
            have hz2 := b2.size
            clear b2 k2 u0 u1 u2 u3
            go_wp2_with fail
            go_ret
            exact ⟨_, rfl, fun e => absurd e (by decide), B2.out⟩
        · have em0 : (me != 0) = true := by simp [hm0]
          clear hm0
          go_enter Try.func9, Try.ntmps9
          go_wp2_with fail
          refine (large_any _ _ _ (HC.out.below HB.out)).mono ?_
          simp only
          rintro e w1 ⟨rfl, b1⟩
          rw [← HLG.out]
          have B1 := Lib.hid (HB.out.trans (b1.mono HB.out.size))
          have X1 := Lib.hid (below_blk b1 X0.out (by simp))
          have u0 := blk_cell X1.out 0
          have u1 := blk_cell X1.out 1
          have u2 := blk_cell X1.out 2
          have u3 := blk_cell X1.out 3
          have hz1 := b1.size
          simp only [World.size_alloc] at hz1
          clear b1
          go_wp2_with fail
          refine (rmay02_any 0 _ _ _ size (H1.out.keep B1.out)).mono ?_
          rintro e w2 ⟨rfl, k2⟩
          have b2 := below_of_keepF k2
          rw [← HME.out]
          have B2 := Lib.hid (B1.out.trans (b2.mono B1.out.size))
          have X2 := Lib.hid (below_blk b2 X1.out (by omega))
          have v0 := blk_cell X2.out 0
          have v2 := blk_cell X2.out 2
          have v3 := blk_cell X2.out 3
          have hz2 := b2.size
          clear b2 k2 u0 u1 u2 u3
          go_wp2_with fail
          go_ret
          exact ⟨_, rfl, fun e => absurd e (by decide), B2.out⟩
end Go.Proofs.Ythhpkinedbdlhaa
