/- An act done to the lists, and to the reference's; the two compared (almerylaw07). -/
import Derived.Test.YthjbggdcninckaaAwake7
import Derived.Lib.QuietBelow
namespace Go.Proofs.Ythjbggdcninckaa
open Go.RowKit Go.Sort
set_option linter.unusedVariables false

/-- what an act comes to -/
def ST (m n : Nat) (L : Nat → List Nat) (d : Bool) (l x er : Int) (L' : Nat → List Nat) : Prop := match d with
  | true => DR m n L x er L'
  | false => PU m n L l x er L'
theorem do_any (w : World) (g gl gn m n : Nat) (L : Nat → List Nat) (h : TR w g gl gn m n L) (d : Bool) (l x : Int) :
    Calls Try.prog 14 #[ptr g, .agg #[.bool d, .int .i64 l, .int .i64 x]] w fun e w' => ∃ er L', e = .returned (.int .i64 er) ∧ ST m n L d l x er L' ∧ TR w' g gl gn m n L' ∧ Keep (fun k => k = gl ∨ k = gn) w w' := by
  cases d
  · have bA := (Below.refl w.heap.size w).alloc (Nat.le_refl _) (.cells #[.bool false, .int .i64 l, .int .i64 x] 38)
    have H := Lib.hid (h.below bA)
    have KA : Hid (Keep (fun k => k = gl ∨ k = gn) w (w.alloc (.cells #[.bool false, .int .i64 l, .int .i64 x] 38))) := Lib.hid (Keep.of_below bA)
    clear h bA
    go_enter Try.func14, Try.ntmps14
    go_wp2_with fail
    refine (tr_push _ g gl gn m n L H.out l x).mono ?_
    rintro e w2 ⟨er, L', rfl, hp, t, k⟩
    have HP := Lib.hid hp
    have T := Lib.hid t
    have K2 := Lib.hid (KA.out.trans k)
    clear hp t k
    go_wp2_with fail
    go_ret
    exact ⟨er, L', rfl, HP.out, T.out, K2.out⟩
  · have bA := (Below.refl w.heap.size w).alloc (Nat.le_refl _) (.cells #[.bool true, .int .i64 l, .int .i64 x] 38)
    have H := Lib.hid (h.below bA)
    have KA : Hid (Keep (fun k => k = gl ∨ k = gn) w (w.alloc (.cells #[.bool true, .int .i64 l, .int .i64 x] 38))) := Lib.hid (Keep.of_below bA)
    clear h bA
    go_enter Try.func14, Try.ntmps14
    go_wp2_with fail
    refine (tr_drop _ g gl gn m n L H.out x).mono ?_
    rintro e w2 ⟨er, L', rfl, hp, t, k⟩
    have HP := Lib.hid hp
    have T := Lib.hid t
    have K2 := Lib.hid (KA.out.trans k)
    clear hp t k
    go_wp2_with fail
    go_ret
    exact ⟨er, L', rfl, HP.out, T.out, K2.out⟩
set_option maxHeartbeats 1000000 in
theorem rdo_any (B : Nat → Prop) (w : World) (v : Value) (m n : Nat) (L : Nat → List Nat) (h : RV B w v m n L) (hBw : ∀ i, w.heap.size ≤ i → B i) (hm64 : m ≤ 64) (wf : WF m n L) (d : Bool) (l x er : Int) (L' : Nat → List Nat) (hs : ST m n L d l x er L') :
    Calls Try.prog 15 #[v, .agg #[.bool d, .int .i64 l, .int .i64 x]] w fun e w' => ∃ v', e = .returned (.tuple #[v', .int .i64 er]) ∧ RV B w' v' m n L' ∧ Below w.heap.size w w' := by
  obtain ⟨aL, cL, rfl, hc⟩ := h.val
  have HS := Lib.hid hs
  have WFH := Lib.hid wf
  clear hs wf
  have HB := Lib.hid hBw
  clear hBw
  cases d
  · have B0 : Hid (Below w.heap.size w (((w.alloc (.cells #[.slice aL m cL, .int .i64 n] 29)).alloc (.cells #[.bool false, .int .i64 l, .int .i64 x] 38)).alloc (.cells #[.slice none 0 0, .int .i64 0] 29))) := Lib.hid ((((Below.refl w.heap.size w).alloc (Nat.le_refl _) _).alloc (by simp) _).alloc (by simp; omega) _)
    have X0 : Hid ((((w.alloc (.cells #[.slice aL m cL, .int .i64 n] 29)).alloc (.cells #[.bool false, .int .i64 l, .int .i64 x] 38)).alloc (.cells #[.slice none 0 0, .int .i64 0] 29)).heap[w.heap.size + 2]? = some (.cells #[.slice none 0 0, .int .i64 0] 29 (0, 0))) := Lib.hid (by have := blk_new ((w.alloc (.cells #[.slice aL m cL, .int .i64 n] 29)).alloc (.cells #[.bool false, .int .i64 l, .int .i64 x] 38)) (.cells #[.slice none 0 0, .int .i64 0] 29); simpa using this)
    have H := Lib.hid ((h.ltS.mono (B' := fun i => B i ∧ i ≠ w.heap.size + 2) (fun i hi => ⟨hi.1, by have := hi.2; omega⟩)).keep B0.out)
    clear h
    go_enter Try.func15, Try.ntmps15
    go_wp2_with fail
    refine (rpush_any _ _ _ m n L H.out (fun i hi => ⟨HB.out i (by simp at hi; omega), by simp at hi; omega⟩) hm64 WFH.out l x er L' HS.out).mono ?_
    rintro e w2 ⟨v', rfl, r, b2⟩
    obtain ⟨aL', cL', rfl, hc'⟩ := r.val
    have X1 := Lib.hid (below_blk b2 X0.out (blk_lt X0.out))
    have HZ2 := b2.size
    simp only [World.size_alloc] at HZ2
    have B2 := Lib.hid (B0.out.trans (b2.mono B0.out.size))
    have R2 := Lib.hid r
    clear r b2
    have s0 := blk_cell X1.out 0
    have s1 := blk_cell X1.out 1
    have t0 := blk_frozen X1.out 0
    have t1 := blk_frozen X1.out 1
    go_wp2_with fail
    have YF := blk_set (blk_set X1.out 0 (.slice aL' m cL')) 1 (.int .i64 n)
    have q0 := blk_cell YF 0
    have q1 := blk_cell YF 1
    have BF := Lib.hid (below1 (below1 B2.out (show w.heap.size ≤ w.heap.size + 2 by omega) B2.out.size 0 (.slice aL' m cL')) (show w.heap.size ≤ w.heap.size + 2 by omega) (by simp; exact B2.out.size) 1 (.int .i64 n))
    have KF : Keep (fun i => i = w.heap.size + 2) w2 ((w2.setCell ⟨w.heap.size + 2, 0, none⟩ (.slice aL' m cL')).setCell ⟨w.heap.size + 2, 1, none⟩ (.int .i64 n)) := ((Keep.refl (fun i => i = w.heap.size + 2) w2).setCell (.inl rfl) _).setCell (.inl rfl) _
    have RF := Lib.hid ((R2.out.keepS KF (fun i hi e => hi.2 e)).mono (B' := B) (fun i hi => hi.1))
    clear YF KF
    refine bodyPost_ret (v := .tuple #[.agg #[.slice aL' m cL', .int .i64 n], .int .i64 er]) (by simp [results, Try.results15, go_sem, q0, q1]) rfl ⟨_, rfl, RF.out, BF.out⟩
  · have B0 : Hid (Below w.heap.size w (((w.alloc (.cells #[.slice aL m cL, .int .i64 n] 29)).alloc (.cells #[.bool true, .int .i64 l, .int .i64 x] 38)).alloc (.cells #[.slice none 0 0, .int .i64 0] 29))) := Lib.hid ((((Below.refl w.heap.size w).alloc (Nat.le_refl _) _).alloc (by simp) _).alloc (by simp; omega) _)
    have X0 : Hid ((((w.alloc (.cells #[.slice aL m cL, .int .i64 n] 29)).alloc (.cells #[.bool true, .int .i64 l, .int .i64 x] 38)).alloc (.cells #[.slice none 0 0, .int .i64 0] 29)).heap[w.heap.size + 2]? = some (.cells #[.slice none 0 0, .int .i64 0] 29 (0, 0))) := Lib.hid (by have := blk_new ((w.alloc (.cells #[.slice aL m cL, .int .i64 n] 29)).alloc (.cells #[.bool true, .int .i64 l, .int .i64 x] 38)) (.cells #[.slice none 0 0, .int .i64 0] 29); simpa using this)
    have H := Lib.hid ((h.ltS.mono (B' := fun i => B i ∧ i ≠ w.heap.size + 2) (fun i hi => ⟨hi.1, by have := hi.2; omega⟩)).keep B0.out)
    clear h
    go_enter Try.func15, Try.ntmps15
    go_wp2_with fail
    refine (rdrop_any _ _ _ m n L H.out (fun i hi => ⟨HB.out i (by simp at hi; omega), by simp at hi; omega⟩) hm64 WFH.out x er L' HS.out).mono ?_
    rintro e w2 ⟨v', rfl, r, b2⟩
    obtain ⟨aL', cL', rfl, hc'⟩ := r.val
    have X1 := Lib.hid (below_blk b2 X0.out (blk_lt X0.out))
    have HZ2 := b2.size
    simp only [World.size_alloc] at HZ2
    have B2 := Lib.hid (B0.out.trans (b2.mono B0.out.size))
    have R2 := Lib.hid r
    clear r b2
    have s0 := blk_cell X1.out 0
    have s1 := blk_cell X1.out 1
    have t0 := blk_frozen X1.out 0
    have t1 := blk_frozen X1.out 1
    go_wp2_with fail
    have YF := blk_set (blk_set X1.out 0 (.slice aL' m cL')) 1 (.int .i64 n)
    have q0 := blk_cell YF 0
    have q1 := blk_cell YF 1
    have BF := Lib.hid (below1 (below1 B2.out (show w.heap.size ≤ w.heap.size + 2 by omega) B2.out.size 0 (.slice aL' m cL')) (show w.heap.size ≤ w.heap.size + 2 by omega) (by simp; exact B2.out.size) 1 (.int .i64 n))
    have KF : Keep (fun i => i = w.heap.size + 2) w2 ((w2.setCell ⟨w.heap.size + 2, 0, none⟩ (.slice aL' m cL')).setCell ⟨w.heap.size + 2, 1, none⟩ (.int .i64 n)) := ((Keep.refl (fun i => i = w.heap.size + 2) w2).setCell (.inl rfl) _).setCell (.inl rfl) _
    have RF := Lib.hid ((R2.out.keepS KF (fun i hi e => hi.2 e)).mono (B' := B) (fun i hi => hi.1))
    clear YF KF
    refine bodyPost_ret (v := .tuple #[.agg #[.slice aL' m cL', .int .i64 n], .int .i64 er]) (by simp [results, Try.results15, go_sem, q0, q1]) rfl ⟨_, rfl, RF.out, BF.out⟩
set_option maxRecDepth 100000 in
set_option maxHeartbeats 4000000 in
theorem same_any (B : Nat → Prop) (w : World) (v : Value) (g gl gn m n : Nat) (L : Nat → List Nat) (t : TR w g gl gn m n L) (h : RV B w v m n L) (hn : n ≤ 4096) (hm : m ≤ 64) :
    Calls Try.prog 16 #[ptr g, v] w fun e w' => e = .returned (.bool true) ∧ Below w.heap.size w w' := by
  obtain ⟨aL, cL, rfl, hc⟩ := h.val
  have T := Lib.hid t
  have H := Lib.hid h
  have WFH := Lib.hid t.wf
  have B0 := Lib.hid ((Below.refl w.heap.size w).alloc (Nat.le_refl _) (.cells #[.slice aL m cL, .int .i64 n] 29))
  have X0 := Lib.hid (blk_new w (.cells #[.slice aL m cL, .int .i64 n] 29))
  clear t h
  go_enter Try.func16, Try.ntmps16
  go_wp2_with fail
  go_loopw [5] (fun i wr => ∃ k : Int, i = .int .i64 k ∧ -1 ≤ k ∧ k ≤ (m : Int) + 1 ∧ Below w.heap.size w wr ∧ wr.heap[w.heap.size]? = some (.cells #[.slice aL m cL, .int .i64 n] 29 (0, 0))) (fun i _ => ((m : Int) + 1 - intOf i).toNat)
  case atStart => exact ⟨-1, rfl, by omega, by omega, B0.out, X0.out⟩
  case round =>
    obtain ⟨k, rfl, hk1, hk2, br, hx⟩ := hrel
    have HX := Lib.hid hx
    have BR := Lib.hid br
    have x0 := blk_cell hx 0
    have x1 := blk_cell hx 1
    clear hx br
    have wk : k + 1 ≤ 9223372036854775807 ∧ -9223372036854775808 ≤ k + 1 := by omega
    by_cases hlt : k ≤ (m : Int)
    · go_wp2_with fail
      refine (rends_any B wr _ m n L (H.out.keep BR.out) WFH.out k).mono ?_
      rintro e w2 ⟨rfl, b2⟩
      have B2 := Lib.hid (BR.out.trans (b2.mono BR.out.size))
      have X2 := Lib.hid (below_blk b2 HX.out (blk_lt HX.out))
      have T2 := Lib.hid (T.out.below B2.out)
      obtain ⟨f1, hf1⟩ : ∃ f, f = firstT m L k := ⟨_, rfl⟩
      obtain ⟨f2, hf2⟩ : ∃ f, f = lastT m L k := ⟨_, rfl⟩
      obtain ⟨f3, hf3⟩ : ∃ f, f = lenT m L k := ⟨_, rfl⟩
      rw [← hf1, ← hf2, ← hf3]
      have F1 := Lib.hid hf1
      have F2 := Lib.hid hf2
      have F3 := Lib.hid hf3
      clear b2 hf1 hf2 hf3 x0 x1
      go_wp2_with fail
      refine (tr_first w2 g gl gn m n L T2.out k).mono ?_
      rw [← F1.out]
      rintro e w3 ⟨rfl, rfl⟩
      go_wp2_with fail
      refine (tr_last w2 g gl gn m n L T2.out k).mono ?_
      rw [← F2.out]
      rintro e w3 ⟨rfl, rfl⟩
      go_wp2_with fail
      refine (tr_len w2 g gl gn m n L T2.out k).mono ?_
      rw [← F3.out]
      rintro e w3 ⟨rfl, rfl⟩
      go_wp2_with fail
      go_roundw
      case rel => exact ⟨k + 1, by go_num, by omega, by omega, B2.out, X2.out⟩
      case measure => simp [intOf]; omega
    · obtain rfl : k = (m : Int) + 1 := by omega
      go_wp2_with fail
      go_loopw [9] (fun i ws => ∃ k : Int, i = .int .i64 k ∧ -1 ≤ k ∧ k ≤ (n : Int) + 1 ∧ Below w.heap.size w ws ∧ ws.heap[w.heap.size]? = some (.cells #[.slice aL m cL, .int .i64 n] 29 (0, 0))) (fun i _ => ((n : Int) + 1 - intOf i).toNat)
      case atStart => exact ⟨-1, rfl, by omega, by omega, BR.out, HX.out⟩
      case round =>
        obtain ⟨k, rfl, hk1, hk2, br, hx⟩ := hrel
        clear x0 x1
        have HY := Lib.hid hx
        have BY := Lib.hid br
        have x0 := blk_cell hx 0
        have x1 := blk_cell hx 1
        clear hx br
        have wk : k + 1 ≤ 9223372036854775807 ∧ -9223372036854775808 ≤ k + 1 := by omega
        by_cases hlt : k ≤ (n : Int)
        · obtain ⟨o, q, ho, _⟩ := tr_node w g gl gn m n L T.out k
          have HO := Lib.hid ho
          clear ho
          have TQ : Hid (∀ (d : Nat) (os : Array Obj), TR (grow (redrawn wr d) os) g gl gn m n L ∧ RV B (grow (redrawn wr d) os) (.agg #[.slice aL m cL, .int .i64 n]) m n L) := Lib.hid (fun d os => ⟨T.out.below (BY.out.trans ((below_regrown wr d os).mono BY.out.size)), H.out.keep (BY.out.trans ((below_regrown wr d os).mono BY.out.size))⟩)
          have y0 := cell_regrown x0
          have y1 := cell_regrown x1
          have cC1 : ∀ (d : Nat) (os : Array Obj), Calls Try.prog 12 #[ptr g, .int .i64 k] (grow (redrawn wr d) os) fun e w'' => e = .returned (.int .i64 (o)) ∧ ∃ p : Regrown, w'' = grow (redrawn wr p.d) p.os := fun d os =>
            Calls.regrown_of (calls_below (tr_of _ g gl gn m n L (TQ.out d os).1 k o q HO.out))
          have C1 := Lib.hid cC1
          clear cC1
          have cC2 : ∀ (d : Nat) (os : Array Obj), Calls Try.prog 19 #[.agg #[.slice aL m cL, .int .i64 n], .int .i64 k] (grow (redrawn wr d) os) fun e w'' => e = .returned (.int .i64 (o)) ∧ ∃ p : Regrown, w'' = grow (redrawn wr p.d) p.os := fun d os =>
            Calls.regrown_of (rof_any B _ _ m n L (TQ.out d os).2 WFH.out k o q HO.out)
          have C2 := Lib.hid cC2
          clear cC2
          have cC3 : ∀ (d : Nat) (os : Array Obj), Calls Try.prog 18 #[ptr g, .int .i64 k] (grow (redrawn wr d) os) fun e w'' => e = .returned (.int .i64 (q)) ∧ ∃ p : Regrown, w'' = grow (redrawn wr p.d) p.os := fun d os =>
            Calls.regrown_of (calls_below (tr_next _ g gl gn m n L (TQ.out d os).1 k o q HO.out))
          have C3 := Lib.hid cC3
          clear cC3
          have cC4 : ∀ (d : Nat) (os : Array Obj), Calls Try.prog 29 #[.agg #[.slice aL m cL, .int .i64 n], .int .i64 k] (grow (redrawn wr d) os) fun e w'' => e = .returned (.int .i64 (q)) ∧ ∃ p : Regrown, w'' = grow (redrawn wr p.d) p.os := fun d os =>
            Calls.regrown_of (rnext_any B _ _ m n L (TQ.out d os).2 WFH.out k o q HO.out)
          have C4 := Lib.hid cC4
          clear cC4
          go_wp2_with fail
          refine wp_region_quiet_below (by kernel_rfl) (by kernel_rfl) ?_
          repeat (first | go_big_quiet_step (first | with_reducible exact C1.out _ _ | with_reducible exact C2.out _ _ | with_reducible exact C3.out _ _ | with_reducible exact C4.out _ _) | quiet_step (first | with_reducible exact C1.out _ _ | with_reducible exact C2.out _ _ | with_reducible exact C3.out _ _ | with_reducible exact C4.out _ _))
          refine wpQuiet_nil ?_
          intro _ hw'
          obtain ⟨⟨dq, osq⟩, hw''⟩ := hw'
          subst hw''
          have bq := below_regrown wr dq osq
          have B5 := Lib.hid (BY.out.trans (bq.mono BY.out.size))
          have X5 := Lib.hid (below_blk bq HY.out (blk_lt HY.out))
          generalize grow (redrawn wr dq) osq = w5 at B5 X5 ⊢
          clear bq y0 y1 x0 x1
          go_wp2_with fail
          go_roundw
          case rel => exact ⟨k + 1, by go_num, by omega, by omega, B5.out, X5.out⟩
          case measure => simp [intOf]; omega
        · obtain rfl : k = (n : Int) + 1 := by omega
          go_wp2_with fail
          go_ret
          exact ⟨rfl, BY.out⟩
end Go.Proofs.Ythjbggdcninckaa
