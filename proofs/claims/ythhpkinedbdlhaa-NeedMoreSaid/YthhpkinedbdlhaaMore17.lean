/- The law NeedMore. -/
import Derived.Test.YthhpkinedbdlhaaLaw17
import Derived.Test.YthhpkinedbdlhaaPure17
import Derived.Test.YthhpkinedbdlhaaStep
import Derived.Deep.Cut
import Derived.Deep.CutRange
namespace Go.Proofs.Ythhpkinedbdlhaa
open Go.RowKit Go.Sort
set_option linter.unusedVariables false

set_option maxRecDepth 100000 in
set_option maxHeartbeats 4000000 in
theorem lawMore (w : World) (v vl : Value) (c : Cf) (l : List Int) (x : Int) (h : CV w v c) (hl : LV 0 w vl l) (hx : -9223372036854775808 ≤ x ∧ x ≤ 9223372036854775807) : Calls Try.prog 5 #[v, vl, .int .i64 x] w fun e w' => e = .returned (.bool true) ∧ Below w.heap.size w w' := by
  obtain ⟨i0, ei, ez0, ez1, ez2⟩ := info_parts Try.infoI
  have HC := Lib.hid h
  have HL := Lib.hid hl
  obtain ⟨ac, cc, ak, ck, rfl, h1, h2⟩ := h
  obtain ⟨al, cl, rfl, hl1, hl2, hl3, hl4⟩ := hl
  unfold maxLen at hl2
  have B0 := Lib.hid ((Below.refl w.heap.size w).alloc (Nat.le_refl _) (.cells #[.int .i64 c.size, .int .i64 c.pages, .slice ac c.classes.length cc, .slice ak c.keep.length ck, .int .i64 c.step, .int .i64 c.slots, .int .i64 c.gens, .int .i64 c.most] 24))
  have X0 := Lib.hid (blk_new w (.cells #[.int .i64 c.size, .int .i64 c.pages, .slice ac c.classes.length cc, .slice ak c.keep.length ck, .int .i64 c.step, .int .i64 c.slots, .int .i64 c.gens, .int .i64 c.most] 24))
  have hcap := h1.caps
  clear h1 h2 hl3 hl4
  go_enter Try.func5, Try.ntmps5
  go_wp2_with fail
  refine (lawake _).mono ?_
  rintro e w1 ⟨rfl, b1⟩
  have B1 := Lib.hid (B0.out.trans (b1.mono B0.out.size))
  have X1 := Lib.hid (below_blk b1 X0.out (blk_lt X0.out))
  have x0 := blk_cell X1.out 0
  have x1 := blk_cell X1.out 1
  have x2 := blk_cell X1.out 2
  have x3 := blk_cell X1.out 3
  have x4 := blk_cell X1.out 4
  have x5 := blk_cell X1.out 5
  have x6 := blk_cell X1.out 6
  have x7 := blk_cell X1.out 7
  clear b1
  go_wp2_with fail
  refine (rmay03_any _ _ c (HC.out.below B1.out)).mono ?_
  rintro e w2 ⟨r, rfl, hr, b2⟩
  have B2 := Lib.hid (B1.out.trans (b2.mono B1.out.size))
  have X2 := Lib.hid (below_blk b2 X1.out (blk_lt X1.out))
  clear b2 x0 x1 x2 x3 x4 x5 x6 x7
  by_cases hr0 : r = 0
  · have ok := hr hr0
    subst hr0
    clear hr
    by_cases h60 : (60 : Int) < l.length
    · clear ok
      go_wp2_with fail
      go_ret
      exact ⟨rfl, B2.out⟩
    · have hlen : l.length ≤ 60 := by omega
      clear h60
      have y0 := blk_cell X2.out 0
      have y1 := blk_cell X2.out 1
      have y2 := blk_cell X2.out 2
      have y3 := blk_cell X2.out 3
      have y4 := blk_cell X2.out 4
      have y5 := blk_cell X2.out 5
      have y6 := blk_cell X2.out 6
      have y7 := blk_cell X2.out 7
      go_wp2_with fail
      refine (pages_any _ _ _ c l (HC.out.below B2.out) ok (HL.out.keep B2.out) (by omega)).mono ?_
      rintro e w3 ⟨rfl, b3⟩
      have B3 := Lib.hid (B2.out.trans (b3.mono B2.out.size))
      have X3 := Lib.hid (below_blk b3 X2.out (blk_lt X2.out))
      clear b3 y0 y1 y2 y3 y4 y5 y6 y7
      obtain ⟨M, hM⟩ : ∃ M, M = l ++ [x] := ⟨_, rfl⟩
      have hMl : M.length = l.length + 1 := by rw [hM]; simp
      have hMlen : M.length ≤ 1000 := by omega
      have HM := Lib.hid hM
      have HMB := Lib.hid (fun (hh : ¬ (pagesE c l = 0 ∧ pagesE c M = 0)) => (show pagesE c M = 3 ∧ (pagesE c l ≠ 0 ∨ ¬ okN c x) from by rw [hM] at hh ⊢; exact more_bad hh))
      have HMO := Lib.hid (fun (hh : pagesE c M = 0) => (show okN c x from by rw [hM] at hh; exact more_ok hh))
      have HML := Lib.hid (fun (h1 : pagesE c l = 0) (h2 : pagesE c M = 0) (h3 : lastC c.classes < x) => (show pagesN c M = pagesN c l + allS x c.size from by rw [hM] at h2 ⊢; exact more_large ok h1 h2 h3))
      have HMS := Lib.hid (fun (h1 : pagesE c l = 0) (h2 : pagesE c M = 0) (h3 : x ≤ lastC c.classes) => (show pagesN c l ≤ pagesN c M ∧ pagesN c M ≤ pagesN c l + 1 from by rw [hM] at h2 ⊢; exact more_small ok h1 h2 h3))
      have HR1 := Lib.hid (pages_range ok l (by omega))
      have HR2 := Lib.hid (pages_range ok M hMlen)
      have HOK := Lib.hid ok
      clear hM hMl ok
      have Hlen := Lib.hid hMlen
      clear hMlen
      go_upto_region 5 with fail
      go_cut [10, 11] from 29 to 39 (fun p q wx => p = .int .i64 (pagesN c M) ∧ q = .int .i64 (pagesE c M) ∧ Below w3.heap.size w3 wx)
      case first =>
        have HL3 := Lib.hid (HL.out.keep B3.out)
        have HC3 := Lib.hid (HC.out.below B3.out)
        have HELD := Lib.hid (fun W (k : Below w3.heap.size w3 W) => (show Below w3.heap.size w3 W ∧ W.cell? ⟨w.heap.size, 0, none⟩ = some (.int .i64 c.size) ∧ W.cell? ⟨w.heap.size, 1, none⟩ = some (.int .i64 c.pages) ∧ W.cell? ⟨w.heap.size, 2, none⟩ = some (.slice ac c.classes.length cc) ∧ W.cell? ⟨w.heap.size, 3, none⟩ = some (.slice ak c.keep.length ck) ∧ W.cell? ⟨w.heap.size, 4, none⟩ = some (.int .i64 c.step) ∧ W.cell? ⟨w.heap.size, 5, none⟩ = some (.int .i64 c.slots) ∧ W.cell? ⟨w.heap.size, 6, none⟩ = some (.int .i64 c.gens) ∧ W.cell? ⟨w.heap.size, 7, none⟩ = some (.int .i64 c.most) from ⟨k, (blk_cell (below_blk k X3.out (blk_lt X3.out)) 0).trans rfl, (blk_cell (below_blk k X3.out (blk_lt X3.out)) 1).trans rfl, (blk_cell (below_blk k X3.out (blk_lt X3.out)) 2).trans rfl, (blk_cell (below_blk k X3.out (blk_lt X3.out)) 3).trans rfl, (blk_cell (below_blk k X3.out (blk_lt X3.out)) 4).trans rfl, (blk_cell (below_blk k X3.out (blk_lt X3.out)) 5).trans rfl, (blk_cell (below_blk k X3.out (blk_lt X3.out)) 6).trans rfl, (blk_cell (below_blk k X3.out (blk_lt X3.out)) 7).trans rfl⟩))
        have bd := below_drew (Below.refl w3.heap.size w3)
        have bA : Below w3.heap.size w3 (w3.drew.alloc (.cells #[] 3)) := bd.alloc (Nat.le_refl _) _
        have bAC : Below w3.heap.size w3 ((w3.drew.alloc (.cells #[] 3)).alloc (.cells #[.int .i64 x] 3)) := bA.alloc bA.size _
        have bC : Below w3.heap.size w3 (w3.drew.alloc (.cells #[.int .i64 x] 3)) := bd.alloc (Nat.le_refl _) _
        have bCA : Below w3.heap.size w3 ((w3.drew.alloc (.cells #[.int .i64 x] 3)).alloc (.cells #[] 3)) := bC.alloc bC.size _
        have OE1 : Hid ((w3.drew.alloc (.cells #[] 3)).ownsRow w3.heap.size 3 1 (.slice (some ⟨w3.heap.size, 0, none⟩) 0 0) 0 []) := Lib.hid (own_empty w3.drew w3.heap.size 3 1 (Nat.le_refl _))
        have OE2 := Lib.hid (OE1.out.alloc (.cells #[.int .i64 x] 3))
        have OE3 : Hid (((w3.drew.alloc (.cells #[.int .i64 x] 3)).alloc (.cells #[] 3)).ownsRow w3.heap.size 3 1 (.slice (some ⟨w3.heap.size + 1, 0, none⟩) 0 0) 0 []) := Lib.hid (by have := own_empty (w3.drew.alloc (.cells #[.int .i64 x] 3)) w3.heap.size 3 1 (by rw [World.size_alloc]; exact Nat.le_succ _); rw [World.size_alloc] at this; exact this)
        have RV1 := Lib.hid (lv_readV (HL3.out.keep bA))
        have RV2 := Lib.hid (lv_readV (HL3.out.keep bAC))
        have RV3 := Lib.hid (lv_readV (HL3.out.keep bCA))
        have XA2 : Hid (((w3.drew.alloc (.cells #[] 3)).alloc (.cells #[.int .i64 x] 3)).heap[w3.heap.size + 1]? = some (.cells #[.int .i64 x] 3 (0, 0))) := Lib.hid (by have := blk_new (w3.drew.alloc (.cells #[] 3)) (.cells #[.int .i64 x] 3); rw [World.size_alloc] at this; exact this)
        have XA3 : Hid (((w3.drew.alloc (.cells #[.int .i64 x] 3)).alloc (.cells #[] 3)).heap[w3.heap.size]? = some (.cells #[.int .i64 x] 3 (0, 0))) := Lib.hid (blk_alloc (blk_new w3.drew (.cells #[.int .i64 x] 3)) _)
        have hls : (icells l).length = l.length * 1 := by simp [icells]
        have HBA := Lib.hid bA
        have HBAC := Lib.hid bAC
        have HBCA := Lib.hid bCA
        clear bA bAC bC bCA bd
        go_region_held3 (fun W => Below w3.heap.size w3 W ∧ W.cell? ⟨w.heap.size, 0, none⟩ = some (.int .i64 c.size) ∧ W.cell? ⟨w.heap.size, 1, none⟩ = some (.int .i64 c.pages) ∧ W.cell? ⟨w.heap.size, 2, none⟩ = some (.slice ac c.classes.length cc) ∧ W.cell? ⟨w.heap.size, 3, none⟩ = some (.slice ak c.keep.length ck) ∧ W.cell? ⟨w.heap.size, 4, none⟩ = some (.int .i64 c.step) ∧ W.cell? ⟨w.heap.size, 5, none⟩ = some (.int .i64 c.slots) ∧ W.cell? ⟨w.heap.size, 6, none⟩ = some (.int .i64 c.gens) ∧ W.cell? ⟨w.heap.size, 7, none⟩ = some (.int .i64 c.most))
          (first
            | exact HELD.out _ (below_drew (Below.refl _ _))
            | exact HELD.out _ HBA.out
            | exact HELD.out _ HBAC.out
            | exact HELD.out _ HBCA.out
            | exact HELD.out _ ((below_drew (Below.refl w3.heap.size w3)).alloc (Nat.le_refl _) _)
            | exact HELD.out _ k5
            | exact HELD.out _ (k5.alloc k5.size _)
            | exact HELD.out _ k6
            | exact HELD.out _ k7)
          (first
            | (refine step_append_list _ rfl (.tmp 31) (.tmp 32) 22 rfl w3.heap.size 3 i0 (.int .i64 0) 1 8 Try.underlying22 ei ez0 ez1 ez2 rfl (by decide) _ _ _ rfl OE1.out l.length (icells l) RV1.out (by simp [icells]) (icells_one l) (by unfold maxLen; omega) (by omega) (by first | (simp; done) | (simp; omega) | omega) ?_; intro v5 w5 o5 hg5; have k5 := grow_below' HBA.out OE1.out hg5; have hz5 := k5.size)
            | (refine step_append_list _ rfl (.tmp 31) (.tmp 32) 22 rfl w3.heap.size 3 i0 (.int .i64 0) 1 8 Try.underlying22 ei ez0 ez1 ez2 rfl (by decide) _ _ _ rfl OE2.out l.length (icells l) RV2.out (by simp [icells]) (icells_one l) (by unfold maxLen; omega) (by omega) (by first | (simp; done) | (simp; omega) | omega) ?_; intro v5 w5 o5 hg5; have k5 := grow_below' HBAC.out OE2.out hg5; have hz5 := k5.size; have X5 := (keep_of_grown hg5).blk XA2.out (fun e => absurd (Option.some.inj (show some w3.heap.size = some (w3.heap.size + 1) from e)) (by omega)))
            | (refine step_append_list _ rfl (.tmp 31) (.tmp 32) 22 rfl w3.heap.size 3 i0 (.int .i64 0) 1 8 Try.underlying22 ei ez0 ez1 ez2 rfl (by decide) _ _ _ rfl OE3.out l.length (icells l) RV3.out (by simp [icells]) (icells_one l) (by unfold maxLen; omega) (by omega) (by first | (simp; done) | (simp; omega) | omega) ?_; intro v5 w5 o5 hg5; have k5 := grow_below' HBCA.out OE3.out hg5; have hz5 := k5.size; have X5 := (keep_of_grown hg5).blk XA3.out (fun e => absurd (Option.some.inj (show some (w3.heap.size + 1) = some w3.heap.size from e)) (by omega)))
            | (refine step_append_list _ rfl (.tmp 33) (.tmp 35) 22 rfl w3.heap.size 3 i0 (.int .i64 0) 1 8 Try.underlying22 ei ez0 ez1 ez2 rfl (by decide) _ _ _ rfl (o5.alloc _) 1 [.int .i64 x] (.inr ⟨_, 1, rfl, new_cells w5 [.int .i64 x] 3⟩) rfl (icells_one [x]) (by unfold maxLen; omega) (by omega) (by first | (simp; done) | (simp; omega) | omega) ?_; intro v6 w6 o6 hg6; have k6 := grow_below' (k5.alloc k5.size _) (o5.alloc _) hg6; have L6 := Lib.hid (lv_of_own (B := 0) (own_snoc (by simpa using o6) HM.out) (Nat.zero_le _)))
            | (refine step_append_list _ rfl (.tmp 33) (.tmp 35) 22 rfl w3.heap.size 3 i0 (.int .i64 0) 1 8 Try.underlying22 ei ez0 ez1 ez2 rfl (by decide) _ _ _ rfl o5 1 [.int .i64 x] (.inr ⟨_, 1, rfl, Go.World.news_of_block X5⟩) rfl (icells_one [x]) (by unfold maxLen; omega) (by omega) (by first | (simp; done) | (simp; omega) | omega) ?_; intro v6 w6 o6 hg6; have k6 := grow_below' k5 o5 hg6; have L6 := Lib.hid (lv_of_own (B := 0) (own_snoc (by simpa using o6) HM.out) (Nat.zero_le _)))
            | (go_at_call 10; refine (pages_any w6 _ _ c M (HC3.out.below k6) HOK.out L6.out Hlen.out).mono ?_; rintro e w7 ⟨rfl, b7⟩; have k7 := k6.trans (b7.mono k6.size)))
        all_goals
          rename_i hH
          go_wp2_with fail
          go_meet
          exact ⟨rfl, rfl, hH.1⟩
      case rest =>
        obtain ⟨rfl, rfl, b4⟩ := hcut
        have B4 := Lib.hid (B3.out.trans (b4.mono B3.out.size))
        have X4 := Lib.hid (below_blk b4 X3.out (blk_lt X3.out))
        clear b4
        have hr1 := HR1.out
        have hr2 := HR2.out
        generalize pagesE c l = e1 at HMB HML HMS ⊢
        generalize pagesE c M = e2 at HMB HMO HML HMS ⊢
        generalize pagesN c l = n1 at HML HMS hr1 HR1 ⊢
        generalize pagesN c M = n2 at HML HMS hr2 HR2 ⊢
        clear HR1 HR2 HM Hlen
        have y0 := blk_cell X4.out 0
        have y1 := blk_cell X4.out 1
        have y2 := blk_cell X4.out 2
        have y3 := blk_cell X4.out 3
        have y4 := blk_cell X4.out 4
        have y5 := blk_cell X4.out 5
        have y6 := blk_cell X4.out 6
        have y7 := blk_cell X4.out 7
        by_cases h1 : e1 = 0
        · subst h1
          by_cases h2 : e2 = 0
          · subst h2
            have hox := HMO.out rfl
            have HS := Lib.hid (fun W (b : Below wc.heap.size wc W) => rsmall_any W _ c ((HC.out.below B4.out).below b))
            have hab := large_bounds HOK.out hox.1 hox.2
            have HAL := Lib.hid (fun W => rall_any W x c.size (by omega))
            have hal : 0 ≤ allS x c.size ∧ allS x c.size ≤ 513 := by omega
            have HL2 := Lib.hid (HML.out rfl rfl)
            have HS2 := Lib.hid (HMS.out rfl rfl)
            generalize lastC c.classes = la at HS HL2 HS2
            generalize allS x c.size = al' at HAL hal HL2
            clear hab hox HML HMS HMB HMO
            by_cases g2 : la < x
            · have HE := Lib.hid (HL2.out g2)
              clear HL2 HS2
              go_wp2_with fail
              refine (HS.out wc (Below.refl _ _)).mono ?_
              rintro e w5 ⟨rfl, b5⟩
              have B5 := Lib.hid (B4.out.trans (b5.mono B4.out.size))
              have z0 := blk_cell (below_blk b5 X4.out (blk_lt X4.out)) 0
              clear b5 y0 y1 y2 y3 y4 y5 y6 y7
              go_wp2_with fail
              refine (HAL.out w5).mono ?_
              rintro e w6 ⟨rfl, rfl⟩
              rw [HE.out]
              go_wp2_with fail
              go_ret
              exact ⟨rfl, B5.out⟩
            · have HE := HS2.out (by omega)
              clear HL2 HS2
              go_wp2_with fail
              refine (HS.out wc (Below.refl _ _)).mono ?_
              rintro e w5 ⟨rfl, b5⟩
              have B5 := Lib.hid (B4.out.trans (b5.mono B4.out.size))
              clear b5 y0 y1 y2 y3 y4 y5 y6 y7
              go_wp2_with fail
              go_ret
              exact ⟨rfl, B5.out⟩
          · have hb := HMB.out (fun h => h2 h.2)
            obtain ⟨h3, h4⟩ := hb
            subst h3
            have hno := h4.resolve_left (fun h => h rfl)
            have dn := decide_eq_false hno
            clear h4 hno h2 HMB HML HMS HMO
            go_wp2_with fail
            refine (ris_any _ _ c x (HC.out.below B4.out)).mono ?_
            rw [show decide (1 ≤ x ∧ x ≤ c.most) = false from dn]
            rintro e w5 ⟨rfl, b5⟩
            have B5 := Lib.hid (B4.out.trans (b5.mono B4.out.size))
            clear b5 y0 y1 y2 y3 y4 y5 y6 y7
            go_wp2_with fail
            go_ret
            exact ⟨rfl, B5.out⟩
        · have hb := HMB.out (fun h => h1 h.1)
          obtain ⟨h3, h4⟩ := hb
          subst h3
          have e1b : (e1 != 0) = true := by simp [h1]
          have e1c : (e1 == 0) = false := by simp [h1]
          clear h4 HMB HML HMS HMO
          go_wp2_with fail
          go_ret
          exact ⟨rfl, B4.out⟩
  · go_wp2_with fail
    go_ret
    exact ⟨rfl, B2.out⟩
end Go.Proofs.Ythhpkinedbdlhaa
