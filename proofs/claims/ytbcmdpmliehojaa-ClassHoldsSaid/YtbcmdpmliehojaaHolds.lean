/- The walk through the law ClassHolds. -/
import Derived.Test.YtbcmdpmliehojaaLaws
import Derived.Lib.QuietBelow
namespace Go.Proofs.Ytbcmdpmliehojaa
open Go.RowKit

theorem pick_mono {l : List Int} (h : mayB l 4096 = true) {n m : Int} {i : Nat} (hi : pickP l n = i) (h1 : n ≤ m) (h2 : m ≤ lastC l) (hn : 1 ≤ n) : (i : Int) ≤ pickP l m := by
  obtain ⟨_, k, k1, k2, k3, k4⟩ := pick_ge (pick_some h (n := m) (by omega) h2)
  obtain ⟨_, j, j1, j2, j3, j4⟩ := pick_ge (l := l) (n := n) (by omega)
  rw [k1]
  have : i = j := by omega
  subst this
  by_cases hlt : k < i
  · have := j4 k hlt; omega
  · omega

set_option maxRecDepth 100000 in
set_option maxHeartbeats 8000000 in
theorem lawHolds_any (w : World) (v : Value) (l : List Int) (n m : Int) (h : LV 0 w v l) (hx : ∀ k, l.getD k 0 ≤ 9223372036854775807) (hn : n ≤ 9223372036854775807) : Calls Try.prog 7 #[v, .int .i64 n, .int .i64 m] w fun e w' => e = .returned (.bool true) ∧ Below w.heap.size w w' := by
  have H := Lib.hid h
  have HX := Lib.hid hx
  obtain ⟨a, c, rfl, hc, hm, _, _⟩ := h
  unfold maxLen at hm
  clear hx
  cases hs : mayB l 4096 with
  | false =>
    have HS := Lib.hid (mayE_no hs)
    clear hs
    go_enter Try.func7, Try.ntmps7
    go_wp2_with fail
    refine (awake_any _).mono ?_
    rintro e w1 ⟨rfl, b1⟩
    go_wp2_with fail
    refine (rmay02_any 0 _ _ l 4096 (H.out.keep b1)).mono ?_
    rintro e w2 ⟨rfl, k2⟩
    rw [HS.out]
    have B2 := b1.trans ((below_of_keepF k2).mono b1.size)
    go_wp2_with fail
    go_ret
    exact ⟨rfl, B2⟩
  | true =>
    have HM := Lib.hid hs
    have HS := Lib.hid (mayE_ok hs)
    have hl := may_last hs
    obtain ⟨q, hlm⟩ : ∃ q, l.length = q + 1 := ⟨l.length - 1, by omega⟩
    have hlast : lastC l = l.getD q 0 := by unfold lastC; rw [hlm, Nat.add_sub_cancel]
    obtain ⟨gl, off, c', hv, hxl⟩ := H.out.elem (k := q) (by omega)
    cases hv
    rw [← hlast] at hxl
    have HXL := Lib.hid hxl
    have HLA : Hid (lastC l = lastC l) := Lib.hid rfl
    obtain ⟨la, hla⟩ : ∃ la, la = lastC l := ⟨_, rfl⟩
    rw [← hla] at HXL hl
    have HLAst := Lib.hid hla
    have Hlm := Lib.hid hlm
    have hq : q ≤ 15 := by omega
    have hl4 := hl.2.1
    clear hs hxl hlast hla hl HLA
    have H' := H
    rw [hlm] at H' hc ⊢
    clear hlm
    have prefx : True := trivial
    by_cases hout : n < 1 ∨ la < n
    · have hpk : Hid (pickP l n = -1) := Lib.hid (by rcases hout with h | h; exact if_pos h; exact pick_none HM.out (by rw [← HLAst.out]; exact h))
      have hws : Hid (wasteP l n = -1) := Lib.hid (if_pos hpk.out)
      by_cases hn1 : n < 1
      · clear hout
        go_enter Try.func7, Try.ntmps7
        go_wp2_with fail
        refine (awake_any _).mono ?_
        rintro e w1 ⟨rfl, b1⟩
        have HH1 := H.out.keep b1
        rw [Hlm.out] at HH1
        have H1 := Lib.hid HH1
        clear HH1
        go_wp2_with fail
        refine (rmay02_any 0 _ _ l 4096 H1.out).mono ?_
        rintro e w2 ⟨rfl, k2⟩
        rw [HS.out]
        have B2 := Lib.hid (b1.trans ((below_of_keepF k2).mono b1.size))
        have H2 := Lib.hid (H1.out.keep (below_of_keepF k2))
        go_wp2_with fail
        refine (pick_any 0 _ _ l n H2.out).mono ?_
        rintro e w3 ⟨rfl, b3⟩
        rw [hpk.out]
        have H3 := Lib.hid (H2.out.keep b3)
        have B3 := Lib.hid (B2.out.trans (b3.mono B2.out.size))
        have hx3 := HXL.out w3 B3.out
        go_wp2_with fail
        refine (waste_any 0 _ _ l n H3.out HX.out).mono ?_
        rintro e w4 ⟨rfl, b4⟩
        rw [hws.out]
        have B4 := B3.out.trans (b4.mono B3.out.size)
        go_wp2_with fail
        go_ret
        exact ⟨rfl, B4⟩
      · have hn2 : la < n := by omega
        have dn1 : decide (n < 1) = false := by simp; omega
        have dn2 : decide (la < n) = true := by simpa using hn2
        go_enter Try.func7, Try.ntmps7
        go_wp2_with fail
        refine (awake_any _).mono ?_
        rintro e w1 ⟨rfl, b1⟩
        have HH1 := H.out.keep b1
        rw [Hlm.out] at HH1
        have H1 := Lib.hid HH1
        clear HH1
        go_wp2_with fail
        refine (rmay02_any 0 _ _ l 4096 H1.out).mono ?_
        rintro e w2 ⟨rfl, k2⟩
        rw [HS.out]
        have B2 := Lib.hid (b1.trans ((below_of_keepF k2).mono b1.size))
        have H2 := Lib.hid (H1.out.keep (below_of_keepF k2))
        go_wp2_with fail
        refine (pick_any 0 _ _ l n H2.out).mono ?_
        rintro e w3 ⟨rfl, b3⟩
        rw [hpk.out]
        have H3 := Lib.hid (H2.out.keep b3)
        have B3 := Lib.hid (B2.out.trans (b3.mono B2.out.size))
        have hx3 := HXL.out w3 B3.out
        go_wp2_with fail
        refine (waste_any 0 _ _ l n H3.out HX.out).mono ?_
        rintro e w4 ⟨rfl, b4⟩
        rw [hws.out]
        have B4 := B3.out.trans (b4.mono B3.out.size)
        go_wp2_with fail
        go_ret
        exact ⟨rfl, B4⟩
    · have h1 : 1 ≤ n := by omega
      have h2 : n ≤ la := by omega
      clear hout
      obtain ⟨_, k, k1, k2, k3, k4⟩ := pick_ge (pick_some HM.out (n := n) h1 (by rw [← HLAst.out]; exact h2))
      have HK1 := Lib.hid k1
      have HWS : Hid (wasteP l n = l.getD k 0 - n) := Lib.hid (by unfold wasteP; rw [if_neg (by omega), k1]; rfl)
      have hxk := Lib.hid (fun W (hW : Below w.heap.size w W) => (show W.cell? ⟨gl, off + k, none⟩ = some (.int .i64 (l.getD k 0)) from by
        obtain ⟨g2, o2, c2, hv2, hx2⟩ := H.out.elem k2
        cases hv2
        exact hx2 W hW))
      have hxp := Lib.hid (fun W (hW : Below w.heap.size w W) (j : Nat) (hj : j + 1 = k) => (show W.cell? ⟨gl, off + j, none⟩ = some (.int .i64 (l.getD j 0)) from by
        obtain ⟨g2, o2, c2, hv2, hx2⟩ := H.out.elem (k := j) (by omega)
        cases hv2
        exact hx2 W hW))
      have HK4 := Lib.hid k4
      have hxb := HX.out k
      have hmono := Lib.hid (fun (hnm : n ≤ m) (hml : m ≤ la) => pick_mono HM.out k1 hnm (by rw [← HLAst.out]; exact hml) h1)
      have hr2 := pickP_range l m
      have hkq : k < q + 1 := by have := Hlm.out; omega
      clear k1 k4 k2
      generalize hz : l.getD k 0 = x at hxk k3 HWS hxb
      obtain ⟨k', hk'⟩ : ∃ k', k' = pickP l m := ⟨_, rfl⟩
      rw [← hk'] at hmono hr2
      have Hk' := Lib.hid hk'
      clear hz hk'
      have d1 : decide (n ≤ x) = true := by simpa using k3
      have dn1 : decide (n < 1) = false := by simp; omega
      have dn2 : decide (la < n) = false := by simp; omega
      cases k with
      | zero =>
        rcases (show m < n ∨ (n ≤ m ∧ la < m) ∨ (n ≤ m ∧ m ≤ la) from by omega) with hm1 | ⟨hm1, hm2⟩ | ⟨hm1, hm2⟩
        · have e1 : decide (m < n) = true := by simpa using hm1
          go_enter Try.func7, Try.ntmps7
          go_wp2_with fail
          refine (awake_any _).mono ?_
          rintro e w1 ⟨rfl, b1⟩
          have HH1 := H.out.keep b1
          rw [Hlm.out] at HH1
          have H1 := Lib.hid HH1
          clear HH1
          go_wp2_with fail
          refine (rmay02_any 0 _ _ l 4096 H1.out).mono ?_
          rintro e w2 ⟨rfl, k2⟩
          rw [HS.out]
          have B2 := Lib.hid (b1.trans ((below_of_keepF k2).mono b1.size))
          have H2 := Lib.hid (H1.out.keep (below_of_keepF k2))
          go_wp2_with fail
          refine (pick_any 0 _ _ l n H2.out).mono ?_
          rintro e w3 ⟨rfl, b3⟩
          rw [HK1.out, show ((0 : Nat) : Int) = 0 from rfl]
          have H3 := Lib.hid (H2.out.keep b3)
          have B3 := Lib.hid (B2.out.trans (b3.mono B2.out.size))
          have hx3 := HXL.out w3 B3.out
          go_wp2_with fail
          refine (pick_any 0 _ _ l m H3.out).mono ?_
          rintro e w4 ⟨rfl, b4⟩
          rw [← Hk'.out]
          have H4 := Lib.hid (H3.out.keep b4)
          have B4 := Lib.hid (B3.out.trans (b4.mono B3.out.size))
          have hx4 := hxk.out w4 B4.out
          rw [Nat.add_zero] at hx4
          have k1 := cell_regrown hx4
          have wr3 : IntKind.i64.wrap (x - n) = x - n := IntWalk.i64_in _ (by omega)
          have hq0 : (0 : Int) < (q : Int) + 1 := by omega
          have cQ : ∀ (d : Nat) (os : Array Obj), Calls Try.prog 13 #[.slice (some ⟨gl, off, none⟩) (q + 1) c, .int .i64 n] (Go.Sort.grow (redrawn w4 d) os) fun e w'' => e = .returned (.int .i64 (x - n)) ∧ ∃ p : Regrown, w'' = Go.Sort.grow (redrawn w4 p.d) p.os := fun d os => by
            have h5 := Calls.regrown_of (waste_any 0 (Go.Sort.grow (redrawn w4 d) os) _ l n (H4.out.keep (below_regrown w4 d os)) HX.out)
            rw [HWS.out] at h5
            exact h5
          have HQ := Lib.hid cQ
          clear cQ
          go_wp2_with fail
          refine wp_region_quiet_below (by kernel_rfl) (by kernel_rfl) ?_
          repeat (first | go_big_quiet_step (exact HQ.out _ _) | quiet_step (exact HQ.out _ _))
          refine wpQuiet_nil ?_
          intro _ hw'
          obtain ⟨⟨dq, osq⟩, hw''⟩ := hw'
          subst hw''
          have B5 := B4.out.trans ((below_regrown w4 dq osq).mono B4.out.size)
          go_wp2_with fail
          go_ret
          exact ⟨rfl, B5⟩
        · have e1 : decide (m < n) = false := by simp; omega
          have e2 : decide (la < m) = true := by simpa using hm2
          go_enter Try.func7, Try.ntmps7
          go_wp2_with fail
          refine (awake_any _).mono ?_
          rintro e w1 ⟨rfl, b1⟩
          have HH1 := H.out.keep b1
          rw [Hlm.out] at HH1
          have H1 := Lib.hid HH1
          clear HH1
          go_wp2_with fail
          refine (rmay02_any 0 _ _ l 4096 H1.out).mono ?_
          rintro e w2 ⟨rfl, k2⟩
          rw [HS.out]
          have B2 := Lib.hid (b1.trans ((below_of_keepF k2).mono b1.size))
          have H2 := Lib.hid (H1.out.keep (below_of_keepF k2))
          go_wp2_with fail
          refine (pick_any 0 _ _ l n H2.out).mono ?_
          rintro e w3 ⟨rfl, b3⟩
          rw [HK1.out, show ((0 : Nat) : Int) = 0 from rfl]
          have H3 := Lib.hid (H2.out.keep b3)
          have B3 := Lib.hid (B2.out.trans (b3.mono B2.out.size))
          have hx3 := HXL.out w3 B3.out
          go_wp2_with fail
          refine (pick_any 0 _ _ l m H3.out).mono ?_
          rintro e w4 ⟨rfl, b4⟩
          rw [← Hk'.out]
          have H4 := Lib.hid (H3.out.keep b4)
          have B4 := Lib.hid (B3.out.trans (b4.mono B3.out.size))
          have hx4 := hxk.out w4 B4.out
          rw [Nat.add_zero] at hx4
          have k1 := cell_regrown hx4
          have wr3 : IntKind.i64.wrap (x - n) = x - n := IntWalk.i64_in _ (by omega)
          have hq0 : (0 : Int) < (q : Int) + 1 := by omega
          have cQ : ∀ (d : Nat) (os : Array Obj), Calls Try.prog 13 #[.slice (some ⟨gl, off, none⟩) (q + 1) c, .int .i64 n] (Go.Sort.grow (redrawn w4 d) os) fun e w'' => e = .returned (.int .i64 (x - n)) ∧ ∃ p : Regrown, w'' = Go.Sort.grow (redrawn w4 p.d) p.os := fun d os => by
            have h5 := Calls.regrown_of (waste_any 0 (Go.Sort.grow (redrawn w4 d) os) _ l n (H4.out.keep (below_regrown w4 d os)) HX.out)
            rw [HWS.out] at h5
            exact h5
          have HQ := Lib.hid cQ
          clear cQ
          go_wp2_with fail
          refine wp_region_quiet_below (by kernel_rfl) (by kernel_rfl) ?_
          repeat (first | go_big_quiet_step (exact HQ.out _ _) | quiet_step (exact HQ.out _ _))
          refine wpQuiet_nil ?_
          intro _ hw'
          obtain ⟨⟨dq, osq⟩, hw''⟩ := hw'
          subst hw''
          have B5 := B4.out.trans ((below_regrown w4 dq osq).mono B4.out.size)
          go_wp2_with fail
          go_ret
          exact ⟨rfl, B5⟩
        · have e1 : decide (m < n) = false := by simp; omega
          have e2 : decide (la < m) = false := by simp; omega
          have hmo := hmono.out hm1 hm2
          have e3 : decide ((0 : Int) ≤ k') = true := by simp at hmo ⊢; omega
          go_enter Try.func7, Try.ntmps7
          go_wp2_with fail
          refine (awake_any _).mono ?_
          rintro e w1 ⟨rfl, b1⟩
          have HH1 := H.out.keep b1
          rw [Hlm.out] at HH1
          have H1 := Lib.hid HH1
          clear HH1
          go_wp2_with fail
          refine (rmay02_any 0 _ _ l 4096 H1.out).mono ?_
          rintro e w2 ⟨rfl, k2⟩
          rw [HS.out]
          have B2 := Lib.hid (b1.trans ((below_of_keepF k2).mono b1.size))
          have H2 := Lib.hid (H1.out.keep (below_of_keepF k2))
          go_wp2_with fail
          refine (pick_any 0 _ _ l n H2.out).mono ?_
          rintro e w3 ⟨rfl, b3⟩
          rw [HK1.out, show ((0 : Nat) : Int) = 0 from rfl]
          have H3 := Lib.hid (H2.out.keep b3)
          have B3 := Lib.hid (B2.out.trans (b3.mono B2.out.size))
          have hx3 := HXL.out w3 B3.out
          go_wp2_with fail
          refine (pick_any 0 _ _ l m H3.out).mono ?_
          rintro e w4 ⟨rfl, b4⟩
          rw [← Hk'.out]
          have H4 := Lib.hid (H3.out.keep b4)
          have B4 := Lib.hid (B3.out.trans (b4.mono B3.out.size))
          have hx4 := hxk.out w4 B4.out
          rw [Nat.add_zero] at hx4
          have k1 := cell_regrown hx4
          have wr3 : IntKind.i64.wrap (x - n) = x - n := IntWalk.i64_in _ (by omega)
          have hq0 : (0 : Int) < (q : Int) + 1 := by omega
          have cQ : ∀ (d : Nat) (os : Array Obj), Calls Try.prog 13 #[.slice (some ⟨gl, off, none⟩) (q + 1) c, .int .i64 n] (Go.Sort.grow (redrawn w4 d) os) fun e w'' => e = .returned (.int .i64 (x - n)) ∧ ∃ p : Regrown, w'' = Go.Sort.grow (redrawn w4 p.d) p.os := fun d os => by
            have h5 := Calls.regrown_of (waste_any 0 (Go.Sort.grow (redrawn w4 d) os) _ l n (H4.out.keep (below_regrown w4 d os)) HX.out)
            rw [HWS.out] at h5
            exact h5
          have HQ := Lib.hid cQ
          clear cQ
          go_wp2_with fail
          refine wp_region_quiet_below (by kernel_rfl) (by kernel_rfl) ?_
          repeat (first | go_big_quiet_step (exact HQ.out _ _) | quiet_step (exact HQ.out _ _))
          refine wpQuiet_nil ?_
          intro _ hw'
          obtain ⟨⟨dq, osq⟩, hw''⟩ := hw'
          subst hw''
          have B5 := B4.out.trans ((below_regrown w4 dq osq).mono B4.out.size)
          go_wp2_with fail
          go_ret
          exact ⟨rfl, B5⟩
      | succ j =>
        have hy0 := HK4.out j (by omega)
        have hyc := Lib.hid (fun W hW => hxp.out W hW j rfl)
        generalize hz : l.getD j 0 = y at hy0 hyc
        clear hz
        have d2 : decide (y < n) = true := by simpa using hy0
        rcases (show m < n ∨ (n ≤ m ∧ la < m) ∨ (n ≤ m ∧ m ≤ la) from by omega) with hm1 | ⟨hm1, hm2⟩ | ⟨hm1, hm2⟩
        · have e1 : decide (m < n) = true := by simpa using hm1
          go_enter Try.func7, Try.ntmps7
          go_wp2_with fail
          refine (awake_any _).mono ?_
          rintro e w1 ⟨rfl, b1⟩
          have HH1 := H.out.keep b1
          rw [Hlm.out] at HH1
          have H1 := Lib.hid HH1
          clear HH1
          go_wp2_with fail
          refine (rmay02_any 0 _ _ l 4096 H1.out).mono ?_
          rintro e w2 ⟨rfl, k2⟩
          rw [HS.out]
          have B2 := Lib.hid (b1.trans ((below_of_keepF k2).mono b1.size))
          have H2 := Lib.hid (H1.out.keep (below_of_keepF k2))
          go_wp2_with fail
          refine (pick_any 0 _ _ l n H2.out).mono ?_
          rintro e w3 ⟨rfl, b3⟩
          rw [HK1.out]
          have H3 := Lib.hid (H2.out.keep b3)
          have B3 := Lib.hid (B2.out.trans (b3.mono B2.out.size))
          have hx3 := HXL.out w3 B3.out
          go_wp2_with fail
          refine (pick_any 0 _ _ l m H3.out).mono ?_
          rintro e w4 ⟨rfl, b4⟩
          rw [← Hk'.out]
          have H4 := Lib.hid (H3.out.keep b4)
          have B4 := Lib.hid (B3.out.trans (b4.mono B3.out.size))
          have hx4 := hxk.out w4 B4.out
          have hy4 := hyc.out w4 B4.out
          have k1 := cell_regrown hx4
          have k2 := cell_regrown hy4
          have wr1 : IntKind.i64.wrap (((j + 1 : Nat) : Int) - 1) = (j : Int) := by rw [IntWalk.i64_in _ (by omega)]; omega
          have wr2 : IntKind.i64.wrap ((j : Int) + 1 - 1) = (j : Int) := by rw [IntWalk.i64_in _ (by omega)]; omega
          have nn1 : (0 : Int) ≤ (j : Int) := by omega
          have nn2 : (j : Int) < (q : Int) + 1 := by omega
          have nn3 : (j : Int) + 1 < (q : Int) + 1 := by omega
          have nn4 : (0 : Int) ≤ (j : Int) + 1 := by omega
          have nn5 : ((j : Int) + 1).toNat = j + 1 := by omega
          have nn6 : ((j : Int) + 1 == 0) = false := beq_eq_false_iff_ne.2 (by omega)
          have wr3 : IntKind.i64.wrap (x - n) = x - n := IntWalk.i64_in _ (by omega)
          have hq0 : (0 : Int) < (q : Int) + 1 := by omega
          have cQ : ∀ (d : Nat) (os : Array Obj), Calls Try.prog 13 #[.slice (some ⟨gl, off, none⟩) (q + 1) c, .int .i64 n] (Go.Sort.grow (redrawn w4 d) os) fun e w'' => e = .returned (.int .i64 (x - n)) ∧ ∃ p : Regrown, w'' = Go.Sort.grow (redrawn w4 p.d) p.os := fun d os => by
            have h5 := Calls.regrown_of (waste_any 0 (Go.Sort.grow (redrawn w4 d) os) _ l n (H4.out.keep (below_regrown w4 d os)) HX.out)
            rw [HWS.out] at h5
            exact h5
          have HQ := Lib.hid cQ
          clear cQ
          go_wp2_with fail
          refine wp_region_quiet_below (by kernel_rfl) (by kernel_rfl) ?_
          repeat (first | go_big_quiet_step (exact HQ.out _ _) | quiet_step (exact HQ.out _ _))
          refine wpQuiet_nil ?_
          intro _ hw'
          obtain ⟨⟨dq, osq⟩, hw''⟩ := hw'
          subst hw''
          have B5 := B4.out.trans ((below_regrown w4 dq osq).mono B4.out.size)
          go_wp2_with fail
          go_ret
          exact ⟨rfl, B5⟩
        · have e1 : decide (m < n) = false := by simp; omega
          have e2 : decide (la < m) = true := by simpa using hm2
          go_enter Try.func7, Try.ntmps7
          go_wp2_with fail
          refine (awake_any _).mono ?_
          rintro e w1 ⟨rfl, b1⟩
          have HH1 := H.out.keep b1
          rw [Hlm.out] at HH1
          have H1 := Lib.hid HH1
          clear HH1
          go_wp2_with fail
          refine (rmay02_any 0 _ _ l 4096 H1.out).mono ?_
          rintro e w2 ⟨rfl, k2⟩
          rw [HS.out]
          have B2 := Lib.hid (b1.trans ((below_of_keepF k2).mono b1.size))
          have H2 := Lib.hid (H1.out.keep (below_of_keepF k2))
          go_wp2_with fail
          refine (pick_any 0 _ _ l n H2.out).mono ?_
          rintro e w3 ⟨rfl, b3⟩
          rw [HK1.out]
          have H3 := Lib.hid (H2.out.keep b3)
          have B3 := Lib.hid (B2.out.trans (b3.mono B2.out.size))
          have hx3 := HXL.out w3 B3.out
          go_wp2_with fail
          refine (pick_any 0 _ _ l m H3.out).mono ?_
          rintro e w4 ⟨rfl, b4⟩
          rw [← Hk'.out]
          have H4 := Lib.hid (H3.out.keep b4)
          have B4 := Lib.hid (B3.out.trans (b4.mono B3.out.size))
          have hx4 := hxk.out w4 B4.out
          have hy4 := hyc.out w4 B4.out
          have k1 := cell_regrown hx4
          have k2 := cell_regrown hy4
          have wr1 : IntKind.i64.wrap (((j + 1 : Nat) : Int) - 1) = (j : Int) := by rw [IntWalk.i64_in _ (by omega)]; omega
          have wr2 : IntKind.i64.wrap ((j : Int) + 1 - 1) = (j : Int) := by rw [IntWalk.i64_in _ (by omega)]; omega
          have nn1 : (0 : Int) ≤ (j : Int) := by omega
          have nn2 : (j : Int) < (q : Int) + 1 := by omega
          have nn3 : (j : Int) + 1 < (q : Int) + 1 := by omega
          have nn4 : (0 : Int) ≤ (j : Int) + 1 := by omega
          have nn5 : ((j : Int) + 1).toNat = j + 1 := by omega
          have nn6 : ((j : Int) + 1 == 0) = false := beq_eq_false_iff_ne.2 (by omega)
          have wr3 : IntKind.i64.wrap (x - n) = x - n := IntWalk.i64_in _ (by omega)
          have hq0 : (0 : Int) < (q : Int) + 1 := by omega
          have cQ : ∀ (d : Nat) (os : Array Obj), Calls Try.prog 13 #[.slice (some ⟨gl, off, none⟩) (q + 1) c, .int .i64 n] (Go.Sort.grow (redrawn w4 d) os) fun e w'' => e = .returned (.int .i64 (x - n)) ∧ ∃ p : Regrown, w'' = Go.Sort.grow (redrawn w4 p.d) p.os := fun d os => by
            have h5 := Calls.regrown_of (waste_any 0 (Go.Sort.grow (redrawn w4 d) os) _ l n (H4.out.keep (below_regrown w4 d os)) HX.out)
            rw [HWS.out] at h5
            exact h5
          have HQ := Lib.hid cQ
          clear cQ
          go_wp2_with fail
          refine wp_region_quiet_below (by kernel_rfl) (by kernel_rfl) ?_
          repeat (first | go_big_quiet_step (exact HQ.out _ _) | quiet_step (exact HQ.out _ _))
          refine wpQuiet_nil ?_
          intro _ hw'
          obtain ⟨⟨dq, osq⟩, hw''⟩ := hw'
          subst hw''
          have B5 := B4.out.trans ((below_regrown w4 dq osq).mono B4.out.size)
          go_wp2_with fail
          go_ret
          exact ⟨rfl, B5⟩
        · have e1 : decide (m < n) = false := by simp; omega
          have e2 : decide (la < m) = false := by simp; omega
          have hmo := hmono.out hm1 hm2
          have e3 : decide (((j : Int) + 1) ≤ k') = true := by simp at hmo ⊢; omega
          go_enter Try.func7, Try.ntmps7
          go_wp2_with fail
          refine (awake_any _).mono ?_
          rintro e w1 ⟨rfl, b1⟩
          have HH1 := H.out.keep b1
          rw [Hlm.out] at HH1
          have H1 := Lib.hid HH1
          clear HH1
          go_wp2_with fail
          refine (rmay02_any 0 _ _ l 4096 H1.out).mono ?_
          rintro e w2 ⟨rfl, k2⟩
          rw [HS.out]
          have B2 := Lib.hid (b1.trans ((below_of_keepF k2).mono b1.size))
          have H2 := Lib.hid (H1.out.keep (below_of_keepF k2))
          go_wp2_with fail
          refine (pick_any 0 _ _ l n H2.out).mono ?_
          rintro e w3 ⟨rfl, b3⟩
          rw [HK1.out]
          have H3 := Lib.hid (H2.out.keep b3)
          have B3 := Lib.hid (B2.out.trans (b3.mono B2.out.size))
          have hx3 := HXL.out w3 B3.out
          go_wp2_with fail
          refine (pick_any 0 _ _ l m H3.out).mono ?_
          rintro e w4 ⟨rfl, b4⟩
          rw [← Hk'.out]
          have H4 := Lib.hid (H3.out.keep b4)
          have B4 := Lib.hid (B3.out.trans (b4.mono B3.out.size))
          have hx4 := hxk.out w4 B4.out
          have hy4 := hyc.out w4 B4.out
          have k1 := cell_regrown hx4
          have k2 := cell_regrown hy4
          have wr1 : IntKind.i64.wrap (((j + 1 : Nat) : Int) - 1) = (j : Int) := by rw [IntWalk.i64_in _ (by omega)]; omega
          have wr2 : IntKind.i64.wrap ((j : Int) + 1 - 1) = (j : Int) := by rw [IntWalk.i64_in _ (by omega)]; omega
          have nn1 : (0 : Int) ≤ (j : Int) := by omega
          have nn2 : (j : Int) < (q : Int) + 1 := by omega
          have nn3 : (j : Int) + 1 < (q : Int) + 1 := by omega
          have nn4 : (0 : Int) ≤ (j : Int) + 1 := by omega
          have nn5 : ((j : Int) + 1).toNat = j + 1 := by omega
          have nn6 : ((j : Int) + 1 == 0) = false := beq_eq_false_iff_ne.2 (by omega)
          have wr3 : IntKind.i64.wrap (x - n) = x - n := IntWalk.i64_in _ (by omega)
          have hq0 : (0 : Int) < (q : Int) + 1 := by omega
          have cQ : ∀ (d : Nat) (os : Array Obj), Calls Try.prog 13 #[.slice (some ⟨gl, off, none⟩) (q + 1) c, .int .i64 n] (Go.Sort.grow (redrawn w4 d) os) fun e w'' => e = .returned (.int .i64 (x - n)) ∧ ∃ p : Regrown, w'' = Go.Sort.grow (redrawn w4 p.d) p.os := fun d os => by
            have h5 := Calls.regrown_of (waste_any 0 (Go.Sort.grow (redrawn w4 d) os) _ l n (H4.out.keep (below_regrown w4 d os)) HX.out)
            rw [HWS.out] at h5
            exact h5
          have HQ := Lib.hid cQ
          clear cQ
          go_wp2_with fail
          refine wp_region_quiet_below (by kernel_rfl) (by kernel_rfl) ?_
          repeat (first | go_big_quiet_step (exact HQ.out _ _) | quiet_step (exact HQ.out _ _))
          refine wpQuiet_nil ?_
          intro _ hw'
          obtain ⟨⟨dq, osq⟩, hw''⟩ := hw'
          subst hw''
          have B5 := B4.out.trans ((below_regrown w4 dq osq).mono B4.out.size)
          go_wp2_with fail
          go_ret
          exact ⟨rfl, B5⟩
end Go.Proofs.Ytbcmdpmliehojaa
