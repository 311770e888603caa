/- The reference's Live and Pages (almeryref17). -/
import Derived.Test.YthhpkinedbdlhaaNeed2
import Derived.Test.YthhpkinedbdlhaaRAll
namespace Go.Proofs.Ythhpkinedbdlhaa
open Go.RowKit Go.Sort
set_option linter.unusedVariables false

theorem CV.lv {w : World} {c : Cf} {ac : Option Addr} {cc : Nat} {ak : Option Addr} {ck : Nat} (h : CV w (.agg #[.int .i64 c.size, .int .i64 c.pages, .slice ac c.classes.length cc, .slice ak c.keep.length ck, .int .i64 c.step, .int .i64 c.slots, .int .i64 c.gens, .int .i64 c.most]) c) : LV 0 w (.slice ac c.classes.length cc) c.classes := by
  obtain ⟨_, _, _, _, e, h1, _⟩ := h
  cases e
  exact h1
theorem CV.lk {w : World} {c : Cf} {ac : Option Addr} {cc : Nat} {ak : Option Addr} {ck : Nat} (h : CV w (.agg #[.int .i64 c.size, .int .i64 c.pages, .slice ac c.classes.length cc, .slice ak c.keep.length ck, .int .i64 c.step, .int .i64 c.slots, .int .i64 c.gens, .int .i64 c.most]) c) : LV 0 w (.slice ak c.keep.length ck) c.keep := by
  obtain ⟨_, _, _, _, e, _, h1⟩ := h
  cases e
  exact h1
set_option maxRecDepth 100000 in
set_option maxHeartbeats 2000000 in
theorem rlive_any (w : World) (v vl : Value) (c : Cf) (l : List Int) (k : Int) (h : CV w v c) (hl : LV 0 w vl l) (hlen : l.length ≤ 1000) : Calls Try.prog 15 #[v, vl, .int .i64 k] w fun e w' => e = .returned (.int .i64 (liveS c l k)) ∧ Below w.heap.size w w' := by
  obtain ⟨ac, cc, ak, ck, rfl, h1, h2⟩ := h
  obtain ⟨al, cl, rfl, hl1, hl2, hl3, hl4⟩ := hl
  have HL : Hid (LV 0 w (.slice al l.length cl) l) := Lib.hid ⟨al, cl, rfl, hl1, hl2, hl3, hl4⟩
  have HC : Hid (CV w (.agg #[.int .i64 c.size, .int .i64 c.pages, .slice ac c.classes.length cc, .slice ak c.keep.length ck, .int .i64 c.step, .int .i64 c.slots, .int .i64 c.gens, .int .i64 c.most]) c) := Lib.hid ⟨ac, cc, ak, ck, rfl, h1, h2⟩
  have hcap := h1.caps
  unfold maxLen at hl2
  have B0 := Lib.hid ((Below.refl w.heap.size w).alloc (Nat.le_refl _) (.cells #[.int .i64 c.size, .int .i64 c.pages, .slice ac c.classes.length cc, .slice ak c.keep.length ck, .int .i64 c.step, .int .i64 c.slots, .int .i64 c.gens, .int .i64 c.most] 24))
  have X0 := Lib.hid (blk_new w (.cells #[.int .i64 c.size, .int .i64 c.pages, .slice ac c.classes.length cc, .slice ak c.keep.length ck, .int .i64 c.step, .int .i64 c.slots, .int .i64 c.gens, .int .i64 c.most] 24))
  clear h1 h2 hl3 hl4
  have HR := Lib.hid (fun j (hj : j ≤ l.length) => sumI_bounds (f := fun i => liveF c k (l.getD i 0)) (M := 1) (n := l.length) (fun i _ => liveF_range c k _) j hj)
  have HE := Lib.hid (show liveS c l k = sumI (fun i => liveF c k (l.getD i 0)) l.length from rfl)
  have HS0 := Lib.hid (fun j => (show sumI (fun i => liveF c k (l.getD i 0)) (j + 1) = sumI (fun i => liveF c k (l.getD i 0)) j + liveF c k (l.getD j 0) from rfl))
  rw [HE.out]
  generalize hF : sumI (fun i => liveF c k (l.getD i 0)) = F at HR HS0 ⊢
  have hF0 : F 0 = 0 := by rw [← hF]; rfl
  have HF0 := Lib.hid hF0
  clear HE hF hF0
  go_enter Try.func15, Try.ntmps15
  go_wp2_with fail
  go_loopw [7, 8] (fun m i wr => ∃ j : Nat, j ≤ l.length ∧ i = .int .i64 j ∧ m = .int .i64 (F j) ∧ Below w.heap.size w wr ∧ wr.heap[w.heap.size]? = some (.cells #[.int .i64 c.size, .int .i64 c.pages, .slice ac c.classes.length cc, .slice ak c.keep.length ck, .int .i64 c.step, .int .i64 c.slots, .int .i64 c.gens, .int .i64 c.most] 24 (0, 0))) (fun _ i _ => l.length - (intOf i).toNat)
  case atStart => exact ⟨0, Nat.zero_le _, rfl, by rw [HF0.out], B0.out, X0.out⟩
  case round =>
    obtain ⟨j, hj, rfl, rfl, br, hx⟩ := hrel
    by_cases hlt : j < l.length
    · have E := HL.out.elem hlt
      obtain ⟨gl, off, c', hv, hel⟩ := E
      cases hv
      have z0 := cell_regrown (hel _ br)
      clear hel
      have hsr := HR.out j hj
      have HS := Lib.hid (HS0.out j)
      generalize l.getD j 0 = x at z0 HS
      generalize F j = s at hsr HS ⊢
      have hsr2 : 0 ≤ s ∧ s ≤ 1000 := by omega
      clear hsr
      have q0 := cell_regrown (blk_cell hx 0)
      have q1 := cell_regrown (blk_cell hx 1)
      have q2 := cell_regrown (blk_cell hx 2)
      have q3 := cell_regrown (blk_cell hx 3)
      have q4 := cell_regrown (blk_cell hx 4)
      have q5 := cell_regrown (blk_cell hx 5)
      have q6 := cell_regrown (blk_cell hx 6)
      have q7 := cell_regrown (blk_cell hx 7)
      have cHI : ∀ (d : Nat) (os : Array Obj), Calls Try.prog 16 #[.agg #[.int .i64 c.size, .int .i64 c.pages, .slice ac c.classes.length cc, .slice ak c.keep.length ck, .int .i64 c.step, .int .i64 c.slots, .int .i64 c.gens, .int .i64 c.most], .int .i64 x] (grow (redrawn wr d) os) fun e w'' => e = .returned (.bool (decide (1 ≤ x ∧ x ≤ c.most))) ∧ ∃ p : Regrown, w'' = grow (redrawn wr p.d) p.os := fun d os =>
        Calls.regrown_of (ris_any _ _ c x (HC.out.below (br.trans ((below_regrown wr d os).mono br.size))))
      have HI := Lib.hid cHI
      clear cHI
      have cHP : ∀ (d : Nat) (os : Array Obj), Calls Try.prog 36 #[.slice ac c.classes.length cc, .int .i64 x] (grow (redrawn wr d) os) fun e w'' => e = .returned (.int .i64 (pickP c.classes x)) ∧ ∃ p : Regrown, w'' = grow (redrawn wr p.d) p.os := fun d os =>
        Calls.regrown_of (calls_below (rpick_any 0 _ _ c.classes x (CV.lv (HC.out.below (br.trans ((below_regrown wr d os).mono br.size))))))
      have HP := Lib.hid cHP
      clear cHP
      have HX := Lib.hid hx
      clear hx
      obtain ⟨p, hp⟩ : ∃ p, p = pickP c.classes x := ⟨_, rfl⟩
      rw [← hp] at HP
      have Hp := Lib.hid hp
      have HN : Hid (¬ (okN c x ∧ 0 ≤ k ∧ p = k) → F (j + 1) = s) := Lib.hid (fun h => by rw [HS.out, show liveF c k x = 0 from if_neg (by rw [← Hp.out]; exact h)]; omega)
      have HY : Hid (okN c x → 0 ≤ k → p = k → F (j + 1) = s + 1) := Lib.hid (fun h1 h2 h3 => by rw [HS.out, show liveF c k x = 1 from if_pos ⟨h1, h2, by rw [← Hp.out]; exact h3⟩])
      clear hp HS
      by_cases g3 : 0 ≤ k
      · have d3 : decide (0 ≤ k) = true := decide_eq_true g3
        by_cases g1 : 1 ≤ x ∧ x ≤ c.most
        · rw [decide_eq_true g1] at HI
          by_cases g4 : p = k
          · subst g4
            have HV := Lib.hid (HY.out g1 g3 rfl)
            clear g1
            go_wp2_with fail
            refine wp_region_quiet_below (by kernel_rfl) (by kernel_rfl) ?_
            repeat (first | go_big_quiet_step (first | with_reducible exact HI.out _ _ | with_reducible exact HP.out _ _) | quiet_step (first | with_reducible exact HI.out _ _ | with_reducible exact HP.out _ _))
            refine wpQuiet_nil ?_
            intro _ hw'
            obtain ⟨⟨dq, osq⟩, hw''⟩ := hw'
            subst hw''
            have b5 := below_regrown wr dq osq
            have X5 := Lib.hid (below_blk b5 HX.out (blk_lt HX.out))
            have B5 := Lib.hid (br.trans (b5.mono br.size))
            generalize grow (redrawn wr dq) osq = w5 at X5 B5 ⊢
            clear b5
            go_wp2_with fail
            go_roundw
            case rel => exact ⟨j + 1, hlt, by go_num, by rw [HV.out], B5.out, X5.out⟩
            case measure => simp [intOf]; omega
          · have d4 : (p == k) = false := beq_eq_false_iff_ne.2 g4
            have HV := Lib.hid (HN.out (fun h => g4 h.2.2))
            clear g1
            go_wp2_with fail
            refine wp_region_quiet_below (by kernel_rfl) (by kernel_rfl) ?_
            repeat (first | go_big_quiet_step (first | with_reducible exact HI.out _ _ | with_reducible exact HP.out _ _) | quiet_step (first | with_reducible exact HI.out _ _ | with_reducible exact HP.out _ _))
            refine wpQuiet_nil ?_
            intro _ hw'
            obtain ⟨⟨dq, osq⟩, hw''⟩ := hw'
            subst hw''
            have b5 := below_regrown wr dq osq
            have X5 := Lib.hid (below_blk b5 HX.out (blk_lt HX.out))
            have B5 := Lib.hid (br.trans (b5.mono br.size))
            generalize grow (redrawn wr dq) osq = w5 at X5 B5 ⊢
            clear b5
            go_wp2_with fail
            go_roundw
            case rel => exact ⟨j + 1, hlt, by go_num, by rw [HV.out], B5.out, X5.out⟩
            case measure => simp [intOf]; omega
        · rw [decide_eq_false g1] at HI
          have HV := Lib.hid (HN.out (fun h => g1 h.1))
          clear g1
          go_wp2_with fail
          refine wp_region_quiet_below (by kernel_rfl) (by kernel_rfl) ?_
          repeat (first | go_big_quiet_step (first | with_reducible exact HI.out _ _ | with_reducible exact HP.out _ _) | quiet_step (first | with_reducible exact HI.out _ _ | with_reducible exact HP.out _ _))
          refine wpQuiet_nil ?_
          intro _ hw'
          obtain ⟨⟨dq, osq⟩, hw''⟩ := hw'
          subst hw''
          have b5 := below_regrown wr dq osq
          have X5 := Lib.hid (below_blk b5 HX.out (blk_lt HX.out))
          have B5 := Lib.hid (br.trans (b5.mono br.size))
          generalize grow (redrawn wr dq) osq = w5 at X5 B5 ⊢
          clear b5
          go_wp2_with fail
          go_roundw
          case rel => exact ⟨j + 1, hlt, by go_num, by rw [HV.out], B5.out, X5.out⟩
          case measure => simp [intOf]; omega
      · have d3 : decide (0 ≤ k) = false := decide_eq_false g3
        have HV := Lib.hid (HN.out (fun h => g3 h.2.1))
        go_wp2_with fail
        refine wp_region_quiet_below (by kernel_rfl) (by kernel_rfl) ?_
        repeat (first | go_big_quiet_step (first | with_reducible exact HI.out _ _ | with_reducible exact HP.out _ _) | quiet_step (first | with_reducible exact HI.out _ _ | with_reducible exact HP.out _ _))
        refine wpQuiet_nil ?_
        intro _ hw'
        obtain ⟨⟨dq, osq⟩, hw''⟩ := hw'
        subst hw''
        have b5 := below_regrown wr dq osq
        have X5 := Lib.hid (below_blk b5 HX.out (blk_lt HX.out))
        have B5 := Lib.hid (br.trans (b5.mono br.size))
        generalize grow (redrawn wr dq) osq = w5 at X5 B5 ⊢
        clear b5
        go_wp2_with fail
        go_roundw
        case rel => exact ⟨j + 1, hlt, by go_num, by rw [HV.out], B5.out, X5.out⟩
        case measure => simp [intOf]; omega
    · obtain rfl : j = l.length := by omega
      go_wp2_with fail
      go_ret
      exact ⟨rfl, br⟩
set_option maxRecDepth 100000 in
set_option maxHeartbeats 4000000 in
theorem rpages_any (w : World) (v vl : Value) (c : Cf) (l : List Int) (h : CV w v c) (ok : OkMay c) (hl : LV 0 w vl l) (hlen : l.length ≤ 1000) : Calls Try.prog 11 #[v, vl] w fun e w' => e = .returned (.tuple #[.int .i64 (pagesN c l), .int .i64 (pagesE c l)]) ∧ Below w.heap.size w w' := by
  have hs := ok.size2
  have hm := ok.most
  have hpos := ok.pos
  have HK := Lib.hid ok
  obtain ⟨ac, cc, ak, ck, rfl, h1, h2⟩ := h
  obtain ⟨al, cl, rfl, hl1, hl2, hl3, hl4⟩ := hl
  have HL : Hid (LV 0 w (.slice al l.length cl) l) := Lib.hid ⟨al, cl, rfl, hl1, hl2, hl3, hl4⟩
  have HC : Hid (CV w (.agg #[.int .i64 c.size, .int .i64 c.pages, .slice ac c.classes.length cc, .slice ak c.keep.length ck, .int .i64 c.step, .int .i64 c.slots, .int .i64 c.gens, .int .i64 c.most]) c) := Lib.hid ⟨ac, cc, ak, ck, rfl, h1, h2⟩
  have hcap := h1.caps
  unfold maxLen at hl2
  have B0 := Lib.hid ((Below.refl w.heap.size w).alloc (Nat.le_refl _) (.cells #[.int .i64 c.size, .int .i64 c.pages, .slice ac c.classes.length cc, .slice ak c.keep.length ck, .int .i64 c.step, .int .i64 c.slots, .int .i64 c.gens, .int .i64 c.most] 24))
  have X0 := Lib.hid (blk_new w (.cells #[.int .i64 c.size, .int .i64 c.pages, .slice ac c.classes.length cc, .slice ak c.keep.length ck, .int .i64 c.step, .int .i64 c.slots, .int .i64 c.gens, .int .i64 c.most] 24))
  clear h1 h2 hl3 hl4
  have HLR := Lib.hid (fun (j : Nat) (h : ∀ i, i < j → okN c (l.getD i 0)) (hj : j ≤ l.length) => sumI_bounds (f := fun i => largeF c (l.getD i 0)) (M := 513) (n := j) (fun i hi => largeF_range HK.out (h i hi)) j (Nat.le_refl _))
  have HSR := Lib.hid (smallS_range ok l hlen)
  have HGS := Lib.hid (fun j => (show sumI (fun i => largeF c (l.getD i 0)) (j + 1) = sumI (fun i => largeF c (l.getD i 0)) j + largeF c (l.getD j 0) from rfl))
  have HSS := Lib.hid (fun j => (show sumI (fun k => manyS (liveS c l k) (blocksS c k)) (j + 1) = sumI (fun k => manyS (liveS c l k) (blocksS c k)) j + manyS (liveS c l j) (blocksS c j) from rfl))
  have HBAD := Lib.hid (fun (j : Nat) (hj : j < l.length) (h : ¬ okN c (l.getD j 0)) => (show pagesN c l = 0 ∧ pagesE c l = 3 from ⟨if_pos (bad_pos hj h), if_pos (bad_pos hj h)⟩))
  have HGOOD := Lib.hid (fun (h : ∀ i, i < l.length → okN c (l.getD i 0)) => (show pagesN c l = sumI (fun k => manyS (liveS c l k) (blocksS c k)) c.classes.length + sumI (fun i => largeF c (l.getD i 0)) l.length ∧ pagesE c l = 0 from by
    have hn : ¬ 0 < badS c l := fun hb => by
      have : badS c l = sumI (fun _ => 0) l.length := sumI_congr _ (fun i hi => if_pos (h i hi))
      rw [this] at hb
      have : ∀ n, sumI (fun _ => 0) n = 0 := fun n => by induction n with
        | zero => rfl
        | succ n ih => simp [sumI, ih]
      rw [this] at hb
      omega
    exact ⟨if_neg hn, if_neg hn⟩))
  generalize hF : sumI (fun i => largeF c (l.getD i 0)) = F at HLR HGS HGOOD
  generalize hG : sumI (fun k => manyS (liveS c l k) (blocksS c k)) = G at HSR HSS HGOOD
  have HF0 : Hid (F 0 = 0) := Lib.hid (by rw [← hF]; rfl)
  have HG0 : Hid (G 0 = 0) := Lib.hid (by rw [← hG]; rfl)
  clear hF hG ok
  go_enter Try.func11, Try.ntmps11
  go_wp2_with fail
  go_loopw [6, 7] (fun m i wr => ∃ j : Nat, j ≤ l.length ∧ i = .int .i64 j ∧ m = .int .i64 (F j) ∧ Hid (∀ i, i < j → okN c (l.getD i 0)) ∧ Hid (Below w.heap.size w wr) ∧ Hid (wr.heap[w.heap.size]? = some (.cells #[.int .i64 c.size, .int .i64 c.pages, .slice ac c.classes.length cc, .slice ak c.keep.length ck, .int .i64 c.step, .int .i64 c.slots, .int .i64 c.gens, .int .i64 c.most] 24 (0, 0)))) (fun _ i _ => l.length - (intOf i).toNat)
  case atStart => exact ⟨0, Nat.zero_le _, rfl, by rw [HF0.out], Lib.hid (fun i hi => absurd hi (Nat.not_lt_zero i)), B0, X0⟩
  case round =>
    obtain ⟨j, hj, rfl, rfl, hok, BR, HX⟩ := hrel
    by_cases hlt : j < l.length
    · have E := HL.out.elem hlt
      obtain ⟨gl, off, c', hv, hel⟩ := E
      cases hv
      have HEL := Lib.hid hel
      have hsr := HLR.out j hok.out hj
      have HS := Lib.hid (HGS.out j)
      have HB := Lib.hid (HBAD.out j hlt)
      have HST := Lib.hid (fun (h : okN c (l.getD j 0)) (i : Nat) (hi : i < j + 1) => (show okN c (l.getD i 0) from if e : i = j then e ▸ h else hok.out i (by omega)))
      clear hel
      generalize l.getD j 0 = x at HEL HS HB HST
      generalize F j = s at hsr HS ⊢
      have hsr2 : 0 ≤ s ∧ s ≤ 513000 := by omega
      have z0 := cell_regrown (HEL.out wr BR.out)
      clear hsr
      have q0 := cell_regrown (blk_cell HX.out 0)
      have q1 := cell_regrown (blk_cell HX.out 1)
      have q2 := cell_regrown (blk_cell HX.out 2)
      have q3 := cell_regrown (blk_cell HX.out 3)
      have q4 := cell_regrown (blk_cell HX.out 4)
      have q5 := cell_regrown (blk_cell HX.out 5)
      have q6 := cell_regrown (blk_cell HX.out 6)
      have q7 := cell_regrown (blk_cell HX.out 7)
      have cHI : ∀ (d : Nat) (os : Array Obj), Calls Try.prog 16 #[.agg #[.int .i64 c.size, .int .i64 c.pages, .slice ac c.classes.length cc, .slice ak c.keep.length ck, .int .i64 c.step, .int .i64 c.slots, .int .i64 c.gens, .int .i64 c.most], .int .i64 x] (grow (redrawn wr d) os) fun e w'' => e = .returned (.bool (decide (1 ≤ x ∧ x ≤ c.most))) ∧ ∃ p : Regrown, w'' = grow (redrawn wr p.d) p.os := fun d os =>
        Calls.regrown_of (ris_any _ _ c x (HC.out.below (BR.out.trans ((below_regrown wr d os).mono BR.out.size))))
      have HI := Lib.hid cHI
      clear cHI
      by_cases g1 : 1 ≤ x ∧ x ≤ c.most
      · rw [decide_eq_true g1] at HI
        have HST2 := Lib.hid (HST.out g1)
        have HAL := Lib.hid (fun W => calls_below (rall_any W x c.size (by omega)))
        have HLF := Lib.hid (largeF_range HK.out (n := x) g1)
        go_wp2_with fail
        refine wp_region_quiet_below (by kernel_rfl) (by kernel_rfl) ?_
        repeat (first | go_big_quiet_step (first | with_reducible exact HI.out _ _) | quiet_step (first | with_reducible exact HI.out _ _))
        refine wpQuiet_nil ?_
        intro _ hw'
        obtain ⟨⟨dq1, osq1⟩, hw''⟩ := hw'
        subst hw''
        have b1 := below_regrown wr dq1 osq1
        have X1 := Lib.hid (below_blk b1 HX.out (blk_lt HX.out))
        have B1 := Lib.hid (BR.out.trans (b1.mono BR.out.size))
        generalize grow (redrawn wr dq1) osq1 = w1 at X1 B1 ⊢
        clear b1
        clear HI z0 q0 q1 q2 q3 q4 q5 q6 q7
        have z1 := cell_regrown (HEL.out w1 B1.out)
        have q0 := cell_regrown (blk_cell X1.out 0)
        have q1 := cell_regrown (blk_cell X1.out 1)
        have q2 := cell_regrown (blk_cell X1.out 2)
        have q3 := cell_regrown (blk_cell X1.out 3)
        have q4 := cell_regrown (blk_cell X1.out 4)
        have q5 := cell_regrown (blk_cell X1.out 5)
        have q6 := cell_regrown (blk_cell X1.out 6)
        have q7 := cell_regrown (blk_cell X1.out 7)
        have cHT : ∀ (d : Nat) (os : Array Obj), Calls Try.prog 17 #[.agg #[.int .i64 c.size, .int .i64 c.pages, .slice ac c.classes.length cc, .slice ak c.keep.length ck, .int .i64 c.step, .int .i64 c.slots, .int .i64 c.gens, .int .i64 c.most]] (grow (redrawn w1 d) os) fun e w'' => e = .returned (.int .i64 (lastC c.classes)) ∧ ∃ p : Regrown, w'' = grow (redrawn w1 p.d) p.os := fun d os =>
          Calls.regrown_of (rsmall_any _ _ c (HC.out.below (B1.out.trans ((below_regrown w1 d os).mono B1.out.size))))
        have HT := Lib.hid cHT
        clear cHT
        have HLG : Hid (∀ r, r = lastC c.classes → largeF c x = if x ≤ r then 0 else allS x c.size) := Lib.hid (fun r e => by rw [e]; rfl)
        obtain ⟨la, hla⟩ : ∃ la, la = lastC c.classes := ⟨_, rfl⟩
        rw [← hla] at HT
        have HLG2 := Lib.hid (HLG.out la hla)
        clear hla HLG
        by_cases g2 : la < x
        · have HV : Hid (F (j + 1) = s + allS x c.size) := Lib.hid (by rw [HS.out, HLG2.out, if_neg (by omega)])
          have hab : 0 ≤ allS x c.size ∧ allS x c.size ≤ 513 := by have := HLF.out; rw [HLG2.out, if_neg (by omega)] at this; exact this
          generalize allS x c.size = al' at HV hab HAL
          have dg : decide (la < x) = true := decide_eq_true g2
          clear HS HLG2 HLF
          go_wp2_with fail
          refine wp_region_quiet_below (by kernel_rfl) (by kernel_rfl) ?_
          repeat (first | go_big_quiet_step (first | with_reducible exact HT.out _ _) | quiet_step (first | with_reducible exact HT.out _ _))
          refine wpQuiet_nil ?_
          intro _ hw'
          obtain ⟨⟨dq2, osq2⟩, hw''⟩ := hw'
          subst hw''
          have b2 := below_regrown w1 dq2 osq2
          have X2 := Lib.hid (below_blk b2 X1.out (blk_lt X1.out))
          have B2 := Lib.hid (B1.out.trans (b2.mono B1.out.size))
          generalize grow (redrawn w1 dq2) osq2 = w2 at X2 B2 ⊢
          clear b2
          clear HT z1 q0 q1 q2 q3 q4 q5 q6 q7
          have z2 := cell_regrown (HEL.out w2 B2.out)
          have q0 := cell_regrown (blk_cell X2.out 0)
          have q1 := cell_regrown (blk_cell X2.out 1)
          have q2 := cell_regrown (blk_cell X2.out 2)
          have q3 := cell_regrown (blk_cell X2.out 3)
          have q4 := cell_regrown (blk_cell X2.out 4)
          have q5 := cell_regrown (blk_cell X2.out 5)
          have q6 := cell_regrown (blk_cell X2.out 6)
          have q7 := cell_regrown (blk_cell X2.out 7)
          have cHA : ∀ (d : Nat) (os : Array Obj), Calls Try.prog 18 #[.int .i64 x, .int .i64 c.size] (grow (redrawn w2 d) os) fun e w'' => e = .returned (.int .i64 (al')) ∧ ∃ p : Regrown, w'' = grow (redrawn w2 p.d) p.os := fun d os =>
            Calls.regrown_of (HAL.out _)
          have HA := Lib.hid cHA
          clear cHA
          go_wp2_with fail
          refine wp_region_quiet_below (by kernel_rfl) (by kernel_rfl) ?_
          repeat (first | go_big_quiet_step (first | with_reducible exact HA.out _ _) | quiet_step (first | with_reducible exact HA.out _ _))
          refine wpQuiet_nil ?_
          intro _ hw'
          obtain ⟨⟨dq3, osq3⟩, hw''⟩ := hw'
          subst hw''
          have b3 := below_regrown w2 dq3 osq3
          have X3 := Lib.hid (below_blk b3 X2.out (blk_lt X2.out))
          have B3 := Lib.hid (B2.out.trans (b3.mono B2.out.size))
          generalize grow (redrawn w2 dq3) osq3 = w3 at X3 B3 ⊢
          clear b3
          go_wp2_with fail
          go_roundw
          case rel => exact ⟨j + 1, hlt, by go_num, by rw [HV.out], HST2, B3, X3⟩
          case measure => simp [intOf]; omega
        · have HV : Hid (F (j + 1) = s) := Lib.hid (by rw [HS.out, HLG2.out, if_pos (by omega)]; omega)
          have dg : decide (la < x) = false := decide_eq_false g2
          clear HS HLG2 HLF
          go_wp2_with fail
          refine wp_region_quiet_below (by kernel_rfl) (by kernel_rfl) ?_
          repeat (first | go_big_quiet_step (first | with_reducible exact HT.out _ _) | quiet_step (first | with_reducible exact HT.out _ _))
          refine wpQuiet_nil ?_
          intro _ hw'
          obtain ⟨⟨dq2, osq2⟩, hw''⟩ := hw'
          subst hw''
          have b2 := below_regrown w1 dq2 osq2
          have X2 := Lib.hid (below_blk b2 X1.out (blk_lt X1.out))
          have B2 := Lib.hid (B1.out.trans (b2.mono B1.out.size))
          generalize grow (redrawn w1 dq2) osq2 = w2 at X2 B2 ⊢
          clear b2
          go_wp2_with fail
          go_roundw
          case rel => exact ⟨j + 1, hlt, by go_num, by rw [HV.out], HST2, B2, X2⟩
          case measure => simp [intOf]; omega
      · rw [decide_eq_false g1] at HI
        have HB2 := Lib.hid (HB.out g1)
        go_wp2_with fail
        refine wp_region_quiet_below (by kernel_rfl) (by kernel_rfl) ?_
        repeat (first | go_big_quiet_step (first | with_reducible exact HI.out _ _) | quiet_step (first | with_reducible exact HI.out _ _))
        refine wpQuiet_nil ?_
        intro _ hw'
        obtain ⟨⟨dq1, osq1⟩, hw''⟩ := hw'
        subst hw''
        have b1 := below_regrown wr dq1 osq1
        have X1 := Lib.hid (below_blk b1 HX.out (blk_lt HX.out))
        have B1 := Lib.hid (BR.out.trans (b1.mono BR.out.size))
        generalize grow (redrawn wr dq1) osq1 = w1 at X1 B1 ⊢
        clear b1
        go_wp2_with fail
        go_ret2
        exact ⟨by rw [HB2.out.1, HB2.out.2]; rfl, B1.out⟩
    · obtain rfl : j = l.length := by omega
      have HGD := Lib.hid (HGOOD.out hok.out)
      have hfr := HLR.out l.length hok.out (Nat.le_refl _)
      have hfr2 : 0 ≤ F l.length ∧ F l.length ≤ 513000 := by omega
      generalize F l.length = fl at HGD hfr2 ⊢
      clear hfr HBAD
      go_wp2_with fail
      go_loopw [6, 8] (fun m i wr => ∃ j : Nat, j ≤ c.classes.length ∧ i = .int .i64 j ∧ m = .int .i64 (fl + G j) ∧ Hid (Below w.heap.size w wr) ∧ Hid (wr.heap[w.heap.size]? = some (.cells #[.int .i64 c.size, .int .i64 c.pages, .slice ac c.classes.length cc, .slice ak c.keep.length ck, .int .i64 c.step, .int .i64 c.slots, .int .i64 c.gens, .int .i64 c.most] 24 (0, 0)))) (fun _ i _ => c.classes.length - (intOf i).toNat)
      case atStart => exact ⟨0, Nat.zero_le _, rfl, by rw [HG0.out, Int.add_zero], BR, HX⟩
      case round =>
        obtain ⟨j, hj, rfl, rfl, BR2, HX2⟩ := hrel
        by_cases hlt : j < c.classes.length
        · have hsr := HSR.out j hj
          have hsr2 := HSR.out (j + 1) hlt
          have HS := Lib.hid (HSS.out j)
          rw [HS.out] at hsr2
          have hlr := liveS_range c l j
          have q0 := cell_regrown (blk_cell HX2.out 0)
          have q1 := cell_regrown (blk_cell HX2.out 1)
          have q2 := cell_regrown (blk_cell HX2.out 2)
          have q3 := cell_regrown (blk_cell HX2.out 3)
          have q4 := cell_regrown (blk_cell HX2.out 4)
          have q5 := cell_regrown (blk_cell HX2.out 5)
          have q6 := cell_regrown (blk_cell HX2.out 6)
          have q7 := cell_regrown (blk_cell HX2.out 7)
          have HVV := Lib.hid (fun (d : Nat) (os : Array Obj) => HC.out.below (BR2.out.trans ((below_regrown wr d os).mono BR2.out.size)))
          have HLL := Lib.hid (fun (d : Nat) (os : Array Obj) => HL.out.keep (BR2.out.trans ((below_regrown wr d os).mono BR2.out.size)))
          have cHQ : ∀ (d : Nat) (os : Array Obj), Calls Try.prog 15 #[.agg #[.int .i64 c.size, .int .i64 c.pages, .slice ac c.classes.length cc, .slice ak c.keep.length ck, .int .i64 c.step, .int .i64 c.slots, .int .i64 c.gens, .int .i64 c.most], .slice al l.length cl, .int .i64 (j : Int)] (grow (redrawn wr d) os) fun e w'' => e = .returned (.int .i64 (liveS c l j)) ∧ ∃ p : Regrown, w'' = grow (redrawn wr p.d) p.os := fun d os =>
            Calls.regrown_of (rlive_any _ _ _ c l j (HVV.out d os) (HLL.out d os) hlen)
          have HQ := Lib.hid cHQ
          clear cHQ
          have cHW : ∀ (d : Nat) (os : Array Obj), Calls Try.prog 19 #[.agg #[.int .i64 c.size, .int .i64 c.pages, .slice ac c.classes.length cc, .slice ak c.keep.length ck, .int .i64 c.step, .int .i64 c.slots, .int .i64 c.gens, .int .i64 c.most], .int .i64 (j : Int)] (grow (redrawn wr d) os) fun e w'' => e = .returned (.int .i64 (blocksS c j)) ∧ ∃ p : Regrown, w'' = grow (redrawn wr p.d) p.os := fun d os =>
            Calls.regrown_of (rblocks_any _ _ c j (HVV.out d os) (by omega))
          have HW := Lib.hid cHW
          clear cHW
          have cHM : ∀ (d : Nat) (os : Array Obj), Calls Try.prog 31 #[.int .i64 (liveS c l j), .int .i64 (blocksS c j)] (grow (redrawn wr d) os) fun e w'' => e = .returned (.int .i64 (manyS (liveS c l j) (blocksS c j))) ∧ ∃ p : Regrown, w'' = grow (redrawn wr p.d) p.os := fun d os =>
            Calls.regrown_of (calls_below (rmany_any _ _ _ (by omega)))
          have HM := Lib.hid cHM
          clear cHM
          generalize liveS c l j = li at HQ HM HS hsr2 hlr
          generalize blocksS c j = bl at HW HM HS hsr2
          generalize manyS li bl = m at HM HS hsr2
          generalize G j = g at HS hsr hsr2 ⊢
          have y2 := blk_cell HX2.out 2
          clear hlr
          go_wp2_with fail
          refine wp_region_quiet_below (by kernel_rfl) (by kernel_rfl) ?_
          repeat (first | go_big_quiet_step (first | with_reducible exact HQ.out _ _ | with_reducible exact HW.out _ _ | with_reducible exact HM.out _ _) | quiet_step (first | with_reducible exact HQ.out _ _ | with_reducible exact HW.out _ _ | with_reducible exact HM.out _ _))
          refine wpQuiet_nil ?_
          intro _ hw'
          obtain ⟨⟨dq4, osq4⟩, hw''⟩ := hw'
          subst hw''
          have b4 := below_regrown wr dq4 osq4
          have X4 := Lib.hid (below_blk b4 HX2.out (blk_lt HX2.out))
          have B4 := Lib.hid (BR2.out.trans (b4.mono BR2.out.size))
          generalize grow (redrawn wr dq4) osq4 = w4 at X4 B4 ⊢
          clear b4
          go_wp2_with fail
          go_roundw
          case rel => exact ⟨j + 1, hlt, by go_num, by rw [HS.out, Int.add_assoc], B4, X4⟩
          case measure => simp [intOf]; omega
        · obtain rfl : j = c.classes.length := by omega
          have y2 := blk_cell HX2.out 2
          go_wp2_with fail
          go_ret2
          exact ⟨by rw [HGD.out.1, HGD.out.2, Int.add_comm]; rfl, BR2.out⟩
end Go.Proofs.Ythhpkinedbdlhaa
