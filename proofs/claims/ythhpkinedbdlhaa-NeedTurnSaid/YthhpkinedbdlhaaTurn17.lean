/- The law NeedTurn. -/
import Derived.Test.YthhpkinedbdlhaaLaw17
import Derived.Test.YthhpkinedbdlhaaPure17
import Derived.Test.YthhpkinedbdlhaaStep
import Derived.Deep.Cut
import Derived.Deep.CutRange
namespace Go.Proofs.Ythhpkinedbdlhaa
open Go.RowKit Go.Sort
set_option linter.unusedVariables false

theorem lv_take {w : World} {al : Option Addr} {cl k : Nat} {l : List Int} (h : LV 0 w (.slice al l.length cl) l) (hk : k ≤ l.length) : LV 0 w (.slice al k cl) (l.take k) := by
  obtain ⟨a, c, e, h1, h2, h3, h4⟩ := h
  cases e
  exact ⟨al, cl, by rw [List.length_take, Nat.min_eq_left hk], by rw [List.length_take]; omega, h2, h3, h4.take k⟩
theorem lv_drop {w : World} {al : Option Addr} {cl k : Nat} {l : List Int} (h : LV 0 w (.slice al l.length cl) l) (hk : k ≤ l.length) : LV 0 w (.slice (if cl = k then al else Option.map (fun x => x.add k) al) (l.length - k) (cl - k)) (l.drop k) := by
  obtain ⟨a, c, e, h1, h2, h3, h4⟩ := h
  cases e
  by_cases hc : cl = k
  · rw [if_pos hc]
    have hd : l.drop k = [] := List.drop_eq_nil_of_le (by omega)
    rw [hd]
    exact ⟨al, cl - k, by rw [show l.length - k = 0 from by omega]; rfl, Nat.zero_le _, by omega, ⟨fun _ => by omega, h3.2⟩, .inl rfl⟩
  · rw [if_neg hc]
    cases al with
    | none => exact absurd (h3.1 rfl) (by omega)
    | some p =>
      refine ⟨some (p.add k), cl - k, by rw [List.length_drop]; rfl, by rw [List.length_drop]; omega, by omega, ⟨nofun, fun _ _ => Nat.zero_le _⟩, ?_⟩
      rcases h4 with h4 | ⟨b, off, e, h4⟩
      · exact .inl (by rw [List.length_drop]; omega)
      · cases e
        rw [WideShapes.add_plain]
        refine .inr ⟨b, off + k, rfl, fun i hi => ?_⟩
        rw [List.length_drop] at hi
        have := h4 (k + i) (by omega)
        rw [show off + k + i = off + (k + i) from by omega, this]
        simp [List.getD]
set_option maxRecDepth 100000 in
set_option maxHeartbeats 4000000 in
theorem lawTurn (w : World) (v vl : Value) (c : Cf) (l : List Int) (x : Int) (h : CV w v c) (hl : LV 0 w vl l) (hx : 0 ≤ x ∧ x ≤ 255) : Calls Try.prog 6 #[v, vl, .int .u8 x] w fun e w' => e = .returned (.bool true) ∧ Below w.heap.size w w' := by
  obtain ⟨i0, ei, ez0, ez1, ez2⟩ := info_parts Try.infoI
  have HC := Lib.hid h
  have HL := Lib.hid hl
  obtain ⟨ac, cc, ak, ck, rfl, h1, h2⟩ := h
  obtain ⟨al, cl, rfl, hl1, hl2, hl3, hl4⟩ := hl
  unfold maxLen at hl2
  have B0 := Lib.hid ((Below.refl w.heap.size w).alloc (Nat.le_refl _) (.cells #[.int .i64 c.size, .int .i64 c.pages, .slice ac c.classes.length cc, .slice ak c.keep.length ck, .int .i64 c.step, .int .i64 c.slots, .int .i64 c.gens, .int .i64 c.most] 24))
  have X0 := Lib.hid (blk_new w (.cells #[.int .i64 c.size, .int .i64 c.pages, .slice ac c.classes.length cc, .slice ak c.keep.length ck, .int .i64 c.step, .int .i64 c.slots, .int .i64 c.gens, .int .i64 c.most] 24))
  have hcap := h1.caps
  clear h1 h2 hl3 hl4
  obtain ⟨k, hk⟩ : ∃ k : Nat, x.tmod ((l.length : Int) + 1) = k := ⟨(x.tmod ((l.length : Int) + 1)).toNat, by have := Int.emod_nonneg x (b := (l.length : Int) + 1) (by omega); rw [Int.tmod_eq_emod_of_nonneg hx.1]; omega⟩
  have hkl : k ≤ l.length := by
    have := Int.emod_lt_of_pos x (b := (l.length : Int) + 1) (by omega)
    rw [Int.tmod_eq_emod_of_nonneg hx.1] at hk
    omega
  have e1 : IntKind.i64.wrap x = x := IntWalk.i64_in _ (by omega)
  go_enter Try.func6, Try.ntmps6
  go_wp2_with fail
  refine (lawake _).mono ?_
  rintro e w1 ⟨rfl, b1⟩
  have B1 := Lib.hid (B0.out.trans (b1.mono B0.out.size))
  have X1 := Lib.hid (below_blk b1 X0.out (blk_lt X0.out))
  have x0 := blk_cell X1.out 0
  have x1 := blk_cell X1.out 1
  have x2 := blk_cell X1.out 2
  have x3 := blk_cell X1.out 3
  have x4 := blk_cell X1.out 4
  have x5 := blk_cell X1.out 5
  have x6 := blk_cell X1.out 6
  have x7 := blk_cell X1.out 7
  clear b1
  go_wp2_with fail
  refine (rmay03_any _ _ c (HC.out.below B1.out)).mono ?_
  rintro e w2 ⟨r, rfl, hr, b2⟩
  have B2 := Lib.hid (B1.out.trans (b2.mono B1.out.size))
  have X2 := Lib.hid (below_blk b2 X1.out (blk_lt X1.out))
  clear b2 x0 x1 x2 x3 x4 x5 x6 x7
  by_cases hr0 : r = 0
  · have ok := hr hr0
    subst hr0
    clear hr
    by_cases h60 : (60 : Int) < l.length
    · clear ok
      go_wp2_with fail
      go_ret
      exact ⟨rfl, B2.out⟩
    · have hlen : l.length ≤ 60 := by omega
      have e2 : IntKind.i64.wrap (k : Int) = k := IntWalk.i64_in _ (by omega)
      have hkcl : k ≤ cl := by omega
      have hkcl2 : (k : Int) ≤ cl := by omega
      have hkl2 : (k : Int) ≤ l.length := by omega
      by_cases hck : cl = k
      · subst hck
        obtain ⟨T, hT⟩ : ∃ T, T = l.drop cl ++ l.take cl := ⟨_, rfl⟩
        have hTl : T.length ≤ 1000 := by rw [hT]; simp; omega
        have HTl := Lib.hid hTl
        have hsame : pagesE c T = pagesE c l ∧ pagesN c T = pagesN c l := by
          have := turn_same c (l.take cl) (l.drop cl)
          rw [List.take_append_drop, ← hT] at this
          exact this
        have HSE := Lib.hid hsame
        have HBAD := Lib.hid (fun (hh : pagesE c l ≠ 0) => (show pagesE c (l.take cl) ≠ 0 ∨ pagesE c (l.drop cl) ≠ 0 from turn_bad (a := l.take cl) (b := l.drop cl) (by rw [List.take_append_drop]; exact hh)))
        have HOKE := Lib.hid (fun (hh : pagesE c l = 0) => (show pagesE c (l.take cl) = 0 ∧ pagesE c (l.drop cl) = 0 from turn_ok (a := l.take cl) (b := l.drop cl) (by rw [List.take_append_drop]; exact hh)))
        have HLE := Lib.hid (fun (hh : pagesE c l = 0) => (show pagesN c l ≤ pagesN c (l.take cl) + pagesN c (l.drop cl) ∧ pagesN c (l.take cl) ≤ pagesN c l ∧ pagesN c (l.drop cl) ≤ pagesN c l from by
          have := turn_le ok (a := l.take cl) (b := l.drop cl) (by rw [List.take_append_drop]; exact hh)
          rw [List.take_append_drop] at this
          exact this))
        have HT := Lib.hid hT
        have HOK := Lib.hid ok
        have HLT := Lib.hid (lv_take HL.out hkl)
        have HLD : Hid (LV 0 w (.slice al 0 0) (l.drop cl)) := Lib.hid (by have := lv_drop HL.out hkl; rwa [if_pos rfl, Nat.sub_self, Nat.sub_eq_zero_of_le hl1] at this)
        have HR1 := pages_range ok (l.take cl) (by simp; omega)
        have HR2 := pages_range ok (l.drop cl) (by simp; omega)
        have HR3 := pages_range ok l (by omega)
        have Hlt : Hid ((l.take cl).length ≤ 1000) := Lib.hid (by simp; omega)
        have Hld : Hid ((l.drop cl).length ≤ 1000) := Lib.hid (by simp; omega)
        clear h60 hT hTl hsame ok
        go_upto_region 5 with fail
        go_cut [9] from 34 to 42 (fun s wx => LV 0 wx s T ∧ Below w2.heap.size w2 wx)
        case first =>
          obtain ⟨A1, hA1⟩ : ∃ A1, A1 = l.take cl := ⟨_, rfl⟩
          obtain ⟨D1, hD1⟩ : ∃ D1, D1 = l.drop cl := ⟨_, rfl⟩
          have hAl : A1.length = cl := by rw [hA1, List.length_take, Nat.min_eq_left hkl]
          have hDl : D1.length = 0 := by rw [hD1, List.length_drop]; try omega
          have LA := Lib.hid (HLT.out.keep B2.out)
          have LD := Lib.hid (HLD.out.keep B2.out)
          rw [← hA1] at LA
          rw [← hD1] at LD
          have HT2 : Hid (T = D1 ++ A1) := Lib.hid (by rw [hA1, hD1]; exact HT.out)
          have bA : Below w2.heap.size w2 ((w2.alloc (.cells #[] 3)).drew) := below_drew ((Below.refl w2.heap.size w2).alloc (Nat.le_refl _) _)
          have OE1 : Hid (((w2.alloc (.cells #[] 3)).drew).ownsRow w2.heap.size 3 1 (.slice (some ⟨w2.heap.size, 0, none⟩) 0 0) 0 []) := Lib.hid (own_empty w2 w2.heap.size 3 1 (Nat.le_refl _))
          have RV1 := Lib.hid (lv_readV (LD.out.keep bA))
          have HDl := Lib.hid hDl
          have HAl := Lib.hid hAl
          have hlA : A1.length ≤ 60 := by omega
          have hlD : D1.length ≤ 60 := by omega
          have HBA := Lib.hid bA
          clear bA hA1 hD1 hAl hDl
          rw [HDl.out] at RV1
          go_region_held3 (fun W => Below w2.heap.size w2 W)
            (first
              | exact below_drew (Below.refl _ _)
              | exact HBA.out
              | exact below_drew ((Below.refl w2.heap.size w2).alloc (Nat.le_refl _) _)
              | exact (below_drew (Below.refl w2.heap.size w2)).alloc (Nat.le_refl _) _
              | exact k5
              | exact k6)
            (first
              | (refine step_append_list _ rfl (.tmp 34) (.tmp 37) 22 rfl w2.heap.size 3 i0 (.int .i64 0) 1 8 Try.underlying22 ei ez0 ez1 ez2 rfl (by decide) _ _ _ rfl OE1.out (0) (icells D1) RV1.out (by simp [icells, HDl.out]) (icells_one D1) (by unfold maxLen; omega) (by omega) (by first | (simp; done) | exact HBA.out.size) ?_; intro v5 w5 o5 hg5; have k5 := grow_below' HBA.out OE1.out hg5; have hz5 := k5.size; have RV2 := lv_readV (LA.out.keep k5); rw [HAl.out] at RV2)
              | (refine step_append_list _ rfl (.tmp 38) (.tmp 41) 22 rfl w2.heap.size 3 i0 (.int .i64 0) 1 8 Try.underlying22 ei ez0 ez1 ez2 rfl (by decide) _ _ _ rfl o5 cl (icells A1) RV2 (by simp [icells, HAl.out]) (icells_one A1) (by unfold maxLen; omega) (by omega) hz5 ?_; intro v6 w6 o6 hg6; have k6 := grow_below' k5 o5 hg6; have L6 := Lib.hid (lv_of_own (B := 0) (own_join (a := D1) (b := A1) (by rw [HDl.out, HAl.out]; simpa using o6) HT2.out) (Nat.zero_le _))))
          all_goals
            rename_i hH
            go_wp2_with fail
            go_meet
            exact ⟨L6.out, hH⟩
        case rest =>
          obtain ⟨l5, b5⟩ := hcut
          have L5 := Lib.hid l5
          have hz5 := l5
          obtain ⟨a5, c5, rfl, hc5, hm5, _, _⟩ := hz5
          unfold maxLen at hm5
          have B5 := Lib.hid (B2.out.trans (b5.mono B2.out.size))
          have X5 := Lib.hid (below_blk b5 X2.out (blk_lt X2.out))
          clear l5 b5
          have y0 := blk_cell X5.out 0
          have y1 := blk_cell X5.out 1
          have y2 := blk_cell X5.out 2
          have y3 := blk_cell X5.out 3
          have y4 := blk_cell X5.out 4
          have y5 := blk_cell X5.out 5
          have y6 := blk_cell X5.out 6
          have y7 := blk_cell X5.out 7
          go_wp2_with fail
          refine (pages_any _ _ _ c l (HC.out.below B5.out) HOK.out (HL.out.keep B5.out) (by omega)).mono ?_
          rintro e w6 ⟨rfl, b6⟩
          have K56 := Lib.hid b6
          have B6 := Lib.hid (B5.out.trans (b6.mono B5.out.size))
          have X6 := Lib.hid (below_blk b6 X5.out (blk_lt X5.out))
          clear b6 y0 y1 y2 y3 y4 y5 y6 y7
          have y0 := blk_cell X6.out 0
          have y1 := blk_cell X6.out 1
          have y2 := blk_cell X6.out 2
          have y3 := blk_cell X6.out 3
          have y4 := blk_cell X6.out 4
          have y5 := blk_cell X6.out 5
          have y6 := blk_cell X6.out 6
          have y7 := blk_cell X6.out 7
          go_wp2_with fail
          refine (pages_any _ _ _ c T (HC.out.below B6.out) HOK.out (L5.out.keep K56.out) HTl.out).mono ?_
          rintro e w7 ⟨rfl, b7⟩
          have B7 := Lib.hid (B6.out.trans (b7.mono B6.out.size))
          have X7 := Lib.hid (below_blk b7 X6.out (blk_lt X6.out))
          clear b7 y0 y1 y2 y3 y4 y5 y6 y7
          have q0 := cell_regrown (blk_cell X7.out 0)
          have q1 := cell_regrown (blk_cell X7.out 1)
          have q2 := cell_regrown (blk_cell X7.out 2)
          have q3 := cell_regrown (blk_cell X7.out 3)
          have q4 := cell_regrown (blk_cell X7.out 4)
          have q5 := cell_regrown (blk_cell X7.out 5)
          have q6 := cell_regrown (blk_cell X7.out 6)
          have q7 := cell_regrown (blk_cell X7.out 7)
          have cHQ : ∀ (d : Nat) (os : Array Obj), Calls Try.prog 10 #[.agg #[.int .i64 c.size, .int .i64 c.pages, .slice ac c.classes.length cc, .slice ak c.keep.length ck, .int .i64 c.step, .int .i64 c.slots, .int .i64 c.gens, .int .i64 c.most], .slice al cl cl] (grow (redrawn w7 d) os) fun e w'' => e = .returned (.tuple #[.int .i64 (pagesN c (l.take cl)), .int .i64 (pagesE c (l.take cl))]) ∧ ∃ p : Regrown, w'' = grow (redrawn w7 p.d) p.os := fun d os =>
            Calls.regrown_of (pages_any _ _ _ c (l.take cl) (HC.out.below (B7.out.trans ((below_regrown w7 d os).mono B7.out.size))) HOK.out (HLT.out.keep (B7.out.trans ((below_regrown w7 d os).mono B7.out.size))) Hlt.out)
          have HQ := Lib.hid cHQ
          clear cHQ
          go_wp2_with fail
          refine wp_region_quiet_below (by kernel_rfl) (by kernel_rfl) ?_
          repeat (first | go_big_quiet_step (first | with_reducible exact HQ.out _ _) | quiet_step (first | with_reducible exact HQ.out _ _))
          refine wpQuiet_nil ?_
          intro _ hw'
          obtain ⟨⟨dq, osq⟩, hw''⟩ := hw'
          subst hw''
          have b8 := below_regrown w7 dq osq
          have X8 := Lib.hid (below_blk b8 X7.out (blk_lt X7.out))
          have B8 := Lib.hid (B7.out.trans (b8.mono B7.out.size))
          generalize grow (redrawn w7 dq) osq = w8 at X8 B8 ⊢
          clear b8 HQ q0 q1 q2 q3 q4 q5 q6 q7
          have q0 := cell_regrown (blk_cell X8.out 0)
          have q1 := cell_regrown (blk_cell X8.out 1)
          have q2 := cell_regrown (blk_cell X8.out 2)
          have q3 := cell_regrown (blk_cell X8.out 3)
          have q4 := cell_regrown (blk_cell X8.out 4)
          have q5 := cell_regrown (blk_cell X8.out 5)
          have q6 := cell_regrown (blk_cell X8.out 6)
          have q7 := cell_regrown (blk_cell X8.out 7)
          have cHQ : ∀ (d : Nat) (os : Array Obj), Calls Try.prog 10 #[.agg #[.int .i64 c.size, .int .i64 c.pages, .slice ac c.classes.length cc, .slice ak c.keep.length ck, .int .i64 c.step, .int .i64 c.slots, .int .i64 c.gens, .int .i64 c.most], .slice al 0 0] (grow (redrawn w8 d) os) fun e w'' => e = .returned (.tuple #[.int .i64 (pagesN c (l.drop cl)), .int .i64 (pagesE c (l.drop cl))]) ∧ ∃ p : Regrown, w'' = grow (redrawn w8 p.d) p.os := fun d os =>
            Calls.regrown_of (pages_any _ _ _ c (l.drop cl) (HC.out.below (B8.out.trans ((below_regrown w8 d os).mono B8.out.size))) HOK.out (HLD.out.keep (B8.out.trans ((below_regrown w8 d os).mono B8.out.size))) Hld.out)
          have HQ := Lib.hid cHQ
          clear cHQ
          go_wp2_with fail
          refine wp_region_quiet_below (by kernel_rfl) (by kernel_rfl) ?_
          repeat (first | go_big_quiet_step (first | with_reducible exact HQ.out _ _) | quiet_step (first | with_reducible exact HQ.out _ _))
          refine wpQuiet_nil ?_
          intro _ hw'
          obtain ⟨⟨dq, osq⟩, hw''⟩ := hw'
          subst hw''
          have b9 := below_regrown w8 dq osq
          have X9 := Lib.hid (below_blk b9 X8.out (blk_lt X8.out))
          have B9 := Lib.hid (B8.out.trans (b9.mono B8.out.size))
          generalize grow (redrawn w8 dq) osq = w9 at X9 B9 ⊢
          clear b9 HQ q0 q1 q2 q3 q4 q5 q6 q7
          have hs1 := HSE.out.1
          have hs2 := HSE.out.2
          rw [hs1, hs2]
          clear hs1 hs2
          generalize pagesE c (l.take cl) = ea at HBAD HOKE ⊢
          generalize pagesE c (l.drop cl) = eb at HBAD HOKE ⊢
          generalize pagesN c (l.take cl) = na at HLE HR1 ⊢
          generalize pagesN c (l.drop cl) = nb at HLE HR2 ⊢
          generalize pagesE c l = el at HBAD HOKE HLE ⊢
          generalize pagesN c l = nl at HLE HR3 ⊢
          clear HSE
          by_cases he : el = 0
          · subst he
            have h1 := HOKE.out rfl
            obtain ⟨ha, hb⟩ := h1
            subst ha
            subst hb
            have h2 := HLE.out rfl
            clear HBAD HOKE HLE
            go_wp2_with fail
            go_ret
            exact ⟨rfl, B9.out⟩
          · have e1b : (el != 0) = true := by simp [he]
            have h1 := HBAD.out he
            clear HBAD HOKE HLE
            by_cases ha : ea = 0
            · have hb : ¬ eb = 0 := h1.resolve_left (fun h => h ha)
              have e2b : (eb != 0) = true := by simp [hb]
              subst ha
              clear h1
              go_wp2_with fail
              go_ret
              exact ⟨rfl, B9.out⟩
            · have e2b : (ea != 0) = true := by simp [ha]
              clear h1
              go_wp2_with fail
              go_ret
              exact ⟨rfl, B9.out⟩
      · have hcl0 : ¬ cl = k := hck
        obtain ⟨T, hT⟩ : ∃ T, T = l.drop k ++ l.take k := ⟨_, rfl⟩
        have hTl : T.length ≤ 1000 := by rw [hT]; simp; omega
        have HTl := Lib.hid hTl
        have hsame : pagesE c T = pagesE c l ∧ pagesN c T = pagesN c l := by
          have := turn_same c (l.take k) (l.drop k)
          rw [List.take_append_drop, ← hT] at this
          exact this
        have HSE := Lib.hid hsame
        have HBAD := Lib.hid (fun (hh : pagesE c l ≠ 0) => (show pagesE c (l.take k) ≠ 0 ∨ pagesE c (l.drop k) ≠ 0 from turn_bad (a := l.take k) (b := l.drop k) (by rw [List.take_append_drop]; exact hh)))
        have HOKE := Lib.hid (fun (hh : pagesE c l = 0) => (show pagesE c (l.take k) = 0 ∧ pagesE c (l.drop k) = 0 from turn_ok (a := l.take k) (b := l.drop k) (by rw [List.take_append_drop]; exact hh)))
        have HLE := Lib.hid (fun (hh : pagesE c l = 0) => (show pagesN c l ≤ pagesN c (l.take k) + pagesN c (l.drop k) ∧ pagesN c (l.take k) ≤ pagesN c l ∧ pagesN c (l.drop k) ≤ pagesN c l from by
          have := turn_le ok (a := l.take k) (b := l.drop k) (by rw [List.take_append_drop]; exact hh)
          rw [List.take_append_drop] at this
          exact this))
        have HT := Lib.hid hT
        have HOK := Lib.hid ok
        have HLT := Lib.hid (lv_take HL.out hkl)
        have HLD : Hid (LV 0 w (.slice (Option.map (fun x => x.add k) al) (l.length - k) (cl - k)) (l.drop k)) := Lib.hid (by have := lv_drop HL.out hkl; rwa [if_neg hck] at this)
        have HR1 := pages_range ok (l.take k) (by simp; omega)
        have HR2 := pages_range ok (l.drop k) (by simp; omega)
        have HR3 := pages_range ok l (by omega)
        have Hlt : Hid ((l.take k).length ≤ 1000) := Lib.hid (by simp; omega)
        have Hld : Hid ((l.drop k).length ≤ 1000) := Lib.hid (by simp; omega)
        clear h60 hT hTl hsame ok
        go_upto_region 5 with fail
        go_cut [9] from 34 to 42 (fun s wx => LV 0 wx s T ∧ Below w2.heap.size w2 wx)
        case first =>
          obtain ⟨A1, hA1⟩ : ∃ A1, A1 = l.take k := ⟨_, rfl⟩
          obtain ⟨D1, hD1⟩ : ∃ D1, D1 = l.drop k := ⟨_, rfl⟩
          have hAl : A1.length = k := by rw [hA1, List.length_take, Nat.min_eq_left hkl]
          have hDl : D1.length = l.length - k := by rw [hD1, List.length_drop]; try omega
          have LA := Lib.hid (HLT.out.keep B2.out)
          have LD := Lib.hid (HLD.out.keep B2.out)
          rw [← hA1] at LA
          rw [← hD1] at LD
          have HT2 : Hid (T = D1 ++ A1) := Lib.hid (by rw [hA1, hD1]; exact HT.out)
          have bA : Below w2.heap.size w2 ((w2.alloc (.cells #[] 3)).drew) := below_drew ((Below.refl w2.heap.size w2).alloc (Nat.le_refl _) _)
          have OE1 : Hid (((w2.alloc (.cells #[] 3)).drew).ownsRow w2.heap.size 3 1 (.slice (some ⟨w2.heap.size, 0, none⟩) 0 0) 0 []) := Lib.hid (own_empty w2 w2.heap.size 3 1 (Nat.le_refl _))
          have RV1 := Lib.hid (lv_readV (LD.out.keep bA))
          have HDl := Lib.hid hDl
          have HAl := Lib.hid hAl
          have hlA : A1.length ≤ 60 := by omega
          have hlD : D1.length ≤ 60 := by omega
          have HBA := Lib.hid bA
          clear bA hA1 hD1 hAl hDl
          rw [HDl.out] at RV1
          go_region_held3 (fun W => Below w2.heap.size w2 W)
            (first
              | exact below_drew (Below.refl _ _)
              | exact HBA.out
              | exact below_drew ((Below.refl w2.heap.size w2).alloc (Nat.le_refl _) _)
              | exact (below_drew (Below.refl w2.heap.size w2)).alloc (Nat.le_refl _) _
              | exact k5
              | exact k6)
            (first
              | (refine step_append_list _ rfl (.tmp 34) (.tmp 37) 22 rfl w2.heap.size 3 i0 (.int .i64 0) 1 8 Try.underlying22 ei ez0 ez1 ez2 rfl (by decide) _ _ _ rfl OE1.out (l.length - k) (icells D1) RV1.out (by simp [icells, HDl.out]) (icells_one D1) (by unfold maxLen; omega) (by omega) (by first | (simp; done) | exact HBA.out.size) ?_; intro v5 w5 o5 hg5; have k5 := grow_below' HBA.out OE1.out hg5; have hz5 := k5.size; have RV2 := lv_readV (LA.out.keep k5); rw [HAl.out] at RV2)
              | (refine step_append_list _ rfl (.tmp 38) (.tmp 41) 22 rfl w2.heap.size 3 i0 (.int .i64 0) 1 8 Try.underlying22 ei ez0 ez1 ez2 rfl (by decide) _ _ _ rfl o5 k (icells A1) RV2 (by simp [icells, HAl.out]) (icells_one A1) (by unfold maxLen; omega) (by omega) hz5 ?_; intro v6 w6 o6 hg6; have k6 := grow_below' k5 o5 hg6; have L6 := Lib.hid (lv_of_own (B := 0) (own_join (a := D1) (b := A1) (by rw [HDl.out, HAl.out]; simpa using o6) HT2.out) (Nat.zero_le _))))
          all_goals
            rename_i hH
            go_wp2_with fail
            go_meet
            exact ⟨L6.out, hH⟩
        case rest =>
          obtain ⟨l5, b5⟩ := hcut
          have L5 := Lib.hid l5
          have hz5 := l5
          obtain ⟨a5, c5, rfl, hc5, hm5, _, _⟩ := hz5
          unfold maxLen at hm5
          have B5 := Lib.hid (B2.out.trans (b5.mono B2.out.size))
          have X5 := Lib.hid (below_blk b5 X2.out (blk_lt X2.out))
          clear l5 b5
          have y0 := blk_cell X5.out 0
          have y1 := blk_cell X5.out 1
          have y2 := blk_cell X5.out 2
          have y3 := blk_cell X5.out 3
          have y4 := blk_cell X5.out 4
          have y5 := blk_cell X5.out 5
          have y6 := blk_cell X5.out 6
          have y7 := blk_cell X5.out 7
          go_wp2_with fail
          refine (pages_any _ _ _ c l (HC.out.below B5.out) HOK.out (HL.out.keep B5.out) (by omega)).mono ?_
          rintro e w6 ⟨rfl, b6⟩
          have K56 := Lib.hid b6
          have B6 := Lib.hid (B5.out.trans (b6.mono B5.out.size))
          have X6 := Lib.hid (below_blk b6 X5.out (blk_lt X5.out))
          clear b6 y0 y1 y2 y3 y4 y5 y6 y7
          have y0 := blk_cell X6.out 0
          have y1 := blk_cell X6.out 1
          have y2 := blk_cell X6.out 2
          have y3 := blk_cell X6.out 3
          have y4 := blk_cell X6.out 4
          have y5 := blk_cell X6.out 5
          have y6 := blk_cell X6.out 6
          have y7 := blk_cell X6.out 7
          go_wp2_with fail
          refine (pages_any _ _ _ c T (HC.out.below B6.out) HOK.out (L5.out.keep K56.out) HTl.out).mono ?_
          rintro e w7 ⟨rfl, b7⟩
          have B7 := Lib.hid (B6.out.trans (b7.mono B6.out.size))
          have X7 := Lib.hid (below_blk b7 X6.out (blk_lt X6.out))
          clear b7 y0 y1 y2 y3 y4 y5 y6 y7
          have q0 := cell_regrown (blk_cell X7.out 0)
          have q1 := cell_regrown (blk_cell X7.out 1)
          have q2 := cell_regrown (blk_cell X7.out 2)
          have q3 := cell_regrown (blk_cell X7.out 3)
          have q4 := cell_regrown (blk_cell X7.out 4)
          have q5 := cell_regrown (blk_cell X7.out 5)
          have q6 := cell_regrown (blk_cell X7.out 6)
          have q7 := cell_regrown (blk_cell X7.out 7)
          have cHQ : ∀ (d : Nat) (os : Array Obj), Calls Try.prog 10 #[.agg #[.int .i64 c.size, .int .i64 c.pages, .slice ac c.classes.length cc, .slice ak c.keep.length ck, .int .i64 c.step, .int .i64 c.slots, .int .i64 c.gens, .int .i64 c.most], .slice al k cl] (grow (redrawn w7 d) os) fun e w'' => e = .returned (.tuple #[.int .i64 (pagesN c (l.take k)), .int .i64 (pagesE c (l.take k))]) ∧ ∃ p : Regrown, w'' = grow (redrawn w7 p.d) p.os := fun d os =>
            Calls.regrown_of (pages_any _ _ _ c (l.take k) (HC.out.below (B7.out.trans ((below_regrown w7 d os).mono B7.out.size))) HOK.out (HLT.out.keep (B7.out.trans ((below_regrown w7 d os).mono B7.out.size))) Hlt.out)
          have HQ := Lib.hid cHQ
          clear cHQ
          go_wp2_with fail
          refine wp_region_quiet_below (by kernel_rfl) (by kernel_rfl) ?_
          repeat (first | go_big_quiet_step (first | with_reducible exact HQ.out _ _) | quiet_step (first | with_reducible exact HQ.out _ _))
          refine wpQuiet_nil ?_
          intro _ hw'
          obtain ⟨⟨dq, osq⟩, hw''⟩ := hw'
          subst hw''
          have b8 := below_regrown w7 dq osq
          have X8 := Lib.hid (below_blk b8 X7.out (blk_lt X7.out))
          have B8 := Lib.hid (B7.out.trans (b8.mono B7.out.size))
          generalize grow (redrawn w7 dq) osq = w8 at X8 B8 ⊢
          clear b8 HQ q0 q1 q2 q3 q4 q5 q6 q7
          have q0 := cell_regrown (blk_cell X8.out 0)
          have q1 := cell_regrown (blk_cell X8.out 1)
          have q2 := cell_regrown (blk_cell X8.out 2)
          have q3 := cell_regrown (blk_cell X8.out 3)
          have q4 := cell_regrown (blk_cell X8.out 4)
          have q5 := cell_regrown (blk_cell X8.out 5)
          have q6 := cell_regrown (blk_cell X8.out 6)
          have q7 := cell_regrown (blk_cell X8.out 7)
          have cHQ : ∀ (d : Nat) (os : Array Obj), Calls Try.prog 10 #[.agg #[.int .i64 c.size, .int .i64 c.pages, .slice ac c.classes.length cc, .slice ak c.keep.length ck, .int .i64 c.step, .int .i64 c.slots, .int .i64 c.gens, .int .i64 c.most], .slice (Option.map (fun x => x.add k) al) (l.length - k) (cl - k)] (grow (redrawn w8 d) os) fun e w'' => e = .returned (.tuple #[.int .i64 (pagesN c (l.drop k)), .int .i64 (pagesE c (l.drop k))]) ∧ ∃ p : Regrown, w'' = grow (redrawn w8 p.d) p.os := fun d os =>
            Calls.regrown_of (pages_any _ _ _ c (l.drop k) (HC.out.below (B8.out.trans ((below_regrown w8 d os).mono B8.out.size))) HOK.out (HLD.out.keep (B8.out.trans ((below_regrown w8 d os).mono B8.out.size))) Hld.out)
          have HQ := Lib.hid cHQ
          clear cHQ
          go_wp2_with fail
          refine wp_region_quiet_below (by kernel_rfl) (by kernel_rfl) ?_
          repeat (first | go_big_quiet_step (first | with_reducible exact HQ.out _ _) | quiet_step (first | with_reducible exact HQ.out _ _))
          refine wpQuiet_nil ?_
          intro _ hw'
          obtain ⟨⟨dq, osq⟩, hw''⟩ := hw'
          subst hw''
          have b9 := below_regrown w8 dq osq
          have X9 := Lib.hid (below_blk b9 X8.out (blk_lt X8.out))
          have B9 := Lib.hid (B8.out.trans (b9.mono B8.out.size))
          generalize grow (redrawn w8 dq) osq = w9 at X9 B9 ⊢
          clear b9 HQ q0 q1 q2 q3 q4 q5 q6 q7
          have hs1 := HSE.out.1
          have hs2 := HSE.out.2
          rw [hs1, hs2]
          clear hs1 hs2
          generalize pagesE c (l.take k) = ea at HBAD HOKE ⊢
          generalize pagesE c (l.drop k) = eb at HBAD HOKE ⊢
          generalize pagesN c (l.take k) = na at HLE HR1 ⊢
          generalize pagesN c (l.drop k) = nb at HLE HR2 ⊢
          generalize pagesE c l = el at HBAD HOKE HLE ⊢
          generalize pagesN c l = nl at HLE HR3 ⊢
          clear HSE
          by_cases he : el = 0
          · subst he
            have h1 := HOKE.out rfl
            obtain ⟨ha, hb⟩ := h1
            subst ha
            subst hb
            have h2 := HLE.out rfl
            clear HBAD HOKE HLE
            go_wp2_with fail
            go_ret
            exact ⟨rfl, B9.out⟩
          · have e1b : (el != 0) = true := by simp [he]
            have h1 := HBAD.out he
            clear HBAD HOKE HLE
            by_cases ha : ea = 0
            · have hb : ¬ eb = 0 := h1.resolve_left (fun h => h ha)
              have e2b : (eb != 0) = true := by simp [hb]
              subst ha
              clear h1
              go_wp2_with fail
              go_ret
              exact ⟨rfl, B9.out⟩
            · have e2b : (ea != 0) = true := by simp [ha]
              clear h1
              go_wp2_with fail
              go_ret
              exact ⟨rfl, B9.out⟩
  · go_wp2_with fail
    go_ret
    exact ⟨rfl, B2.out⟩
end Go.Proofs.Ythhpkinedbdlhaa
