/- The reference's Ends, Next, Of; Push and Drop as they are told (almeryref07). -/
import Derived.Test.YthjbggdcninckaaRRing5
import Derived.Lib.QuietBelow
namespace Go.Proofs.Ythjbggdcninckaa
open Go.RowKit Go.Sort
set_option linter.unusedVariables false

/-- what lists are: nodes that there are, each in one at most -/
structure WF (m n : Nat) (L : Nat → List Nat) : Prop where
  lt : ∀ i, i < m → ∀ x, x ∈ L i → x < n
  apart : ∀ i j x, i < m → j < m → x ∈ L i → x ∈ L j → i = j
  len : ∀ i, i < m → (L i).length ≤ 5000
theorem Ring.wf {m n : Nat} {L : Nat → List Nat} {F E M P X O : Nat → Int} (h : Ring m n L F E M P X O) (hn : n ≤ 5000) : WF m n L :=
  ⟨h.lt, fun i j x hi hj h1 h2 => h.apart hi hj h1 h2, fun i hi => Nat.le_trans (h.len hi) hn⟩
theorem TR.wf {w : World} {g gl gn m n : Nat} {L : Nat → List Nat} (h : TR w g gl gn m n L) : WF m n L := by
  obtain ⟨F, E, M, P, X, O, hr, hg⟩ := h
  exact hg.wf (by have := hr.2.2.2.2.2.2.2; omega)
theorem inB_none {m : Nat} {L : Nat → List Nat} {y : Nat} (h : inB m L y = false) : ∀ j, j < m → ∀ z, z ∈ L j → (z : Int) ≠ (y : Int) := fun j hj z hz e => inB_no.1 h j hj (by
  have : z = y := by omega
  exact this ▸ hz)
theorem rpush_any (B : Nat → Prop) (w : World) (v : Value) (m n : Nat) (L : Nat → List Nat) (h : RV B w v m n L) (hBw : ∀ i, w.heap.size ≤ i → B i) (hm64 : m ≤ 64) (wf : WF m n L) (i x er : Int) (L' : Nat → List Nat) (hp : PU m n L i x er L') :
    Calls Try.prog 27 #[v, .int .i64 i, .int .i64 x] w fun e w' => ∃ v', e = .returned (.tuple #[v', .int .i64 er]) ∧ RV B w' v' m n L' ∧ Below w.heap.size w w' := by
  cases hp with
  | arg g0 =>
    refine (rpush_arg B w v m n L h i x g0).mono ?_
    rintro e w' ⟨rfl, b⟩
    exact ⟨_, rfl, h.keep b, b⟩
  | there j y e1 e2 hj hy hin =>
    subst e1 e2
    obtain ⟨k, hk, hky⟩ := inB_iff.1 hin
    obtain ⟨a, b, hL, hna⟩ := mem_split (L k) hky
    refine (rpush_there B w v m n L h hj hy hk hL hna (fun q hq hm => by have := wf.apart q k y (by omega) hk hm hky; omega)).mono ?_
    rintro e w' ⟨rfl, b⟩
    exact ⟨_, rfl, h.keep b, b⟩
  | ok j y e1 e2 hj hy hin =>
    subst e1 e2
    exact rpush_ok B w v m n L h hBw hm64 hy hj (inB_none hin) (wf.len j hj)
theorem rdrop_any (B : Nat → Prop) (w : World) (v : Value) (m n : Nat) (L : Nat → List Nat) (h : RV B w v m n L) (hBw : ∀ i, w.heap.size ≤ i → B i) (hm64 : m ≤ 64) (wf : WF m n L) (x er : Int) (L' : Nat → List Nat) (hp : DR m n L x er L') :
    Calls Try.prog 26 #[v, .int .i64 x] w fun e w' => ∃ v', e = .returned (.tuple #[v', .int .i64 er]) ∧ RV B w' v' m n L' ∧ Below w.heap.size w w' := by
  cases hp with
  | arg g0 =>
    refine (rdrop_arg B w v m n L h x g0).mono ?_
    rintro e w' ⟨rfl, b⟩
    exact ⟨_, rfl, h.keep b, b⟩
  | none y e2 hy hin =>
    subst e2
    refine (rdrop_none B w v m n L h hy (inB_none hin)).mono ?_
    rintro e w' ⟨rfl, b⟩
    exact ⟨_, rfl, h.keep b, b⟩
  | ok y i a b e2 hy hi hL hna hno =>
    subst e2
    exact rdrop_ok B w v m n L h hBw hm64 hy hi hL hna (fun j hj => hno j (by omega) (by omega)) (wf.len i hi)
theorem rof_any (B : Nat → Prop) (w : World) (v : Value) (m n : Nat) (L : Nat → List Nat) (h : RV B w v m n L) (wf : WF m n L) (x o k : Int) (ho : OT m n L x o k) : Calls Try.prog 19 #[v, .int .i64 x] w fun e w' => e = .returned (.int .i64 o) ∧ Below w.heap.size w w' := by
  obtain ⟨aL, cL, rfl, hc⟩ := h.val
  have H := Lib.hid h
  have B0 := Lib.hid ((Below.refl w.heap.size w).alloc (Nat.le_refl _) (.cells #[.slice aL m cL, .int .i64 n] 29))
  clear h
  have fin : ∀ (w1 : World) (o' k' : Int), True := fun _ _ _ => trivial
  clear fin
  cases ho with
  | far g0 =>
    have HNO := Lib.hid (fun j (hj : j < m) z (hz : z ∈ L j) => (show (z : Int) ≠ x from by have := wf.lt j hj z hz; omega))
    clear g0
    go_enter Try.func19, Try.ntmps19
    go_wp2_with fail
    refine (rplace_none B _ _ m n L (H.out.keep B0.out) x HNO.out).mono ?_
    rintro e w2 ⟨rfl, b2⟩
    have B2 := Lib.hid (B0.out.trans (b2.mono B0.out.size))
    clear b2
    go_wp2_with fail
    go_ret
    exact ⟨rfl, B2.out⟩
  | none y e hy hin =>
    subst e
    have HNO := Lib.hid (inB_none hin)
    go_enter Try.func19, Try.ntmps19
    go_wp2_with fail
    refine (rplace_none B _ _ m n L (H.out.keep B0.out) (y : Int) HNO.out).mono ?_
    rintro e w2 ⟨rfl, b2⟩
    have B2 := Lib.hid (B0.out.trans (b2.mono B0.out.size))
    clear b2
    go_wp2_with fail
    go_ret
    exact ⟨rfl, B2.out⟩
  | some y i a b e hy hi hL hna hno =>
    subst e
    have HP := Lib.hid (fun W (b : Below w.heap.size w W) => rplace_some B W _ m n L (H.out.keep b) hi hL hna (fun j hj => hno j (by omega) (by omega)))
    generalize a.length = k at HP
    clear hL hna hno
    go_enter Try.func19, Try.ntmps19
    go_wp2_with fail
    refine (HP.out _ B0.out).mono ?_
    rintro e w2 ⟨rfl, b2⟩
    have B2 := Lib.hid (B0.out.trans (b2.mono B0.out.size))
    clear b2
    go_wp2_with fail
    go_ret
    exact ⟨rfl, B2.out⟩
theorem rnext_any (B : Nat → Prop) (w : World) (v : Value) (m n : Nat) (L : Nat → List Nat) (h : RV B w v m n L) (wf : WF m n L) (x o k : Int) (ho : OT m n L x o k) : Calls Try.prog 29 #[v, .int .i64 x] w fun e w' => e = .returned (.int .i64 k) ∧ Below w.heap.size w w' := by
  obtain ⟨aL, cL, rfl, hc⟩ := h.val
  have H := Lib.hid h
  have B0 := Lib.hid ((Below.refl w.heap.size w).alloc (Nat.le_refl _) (.cells #[.slice aL m cL, .int .i64 n] 29))
  have X0 := Lib.hid (blk_new w (.cells #[.slice aL m cL, .int .i64 n] 29))
  cases ho with
  | far g0 =>
    have HNO := Lib.hid (fun j (hj : j < m) z (hz : z ∈ L j) => (show (z : Int) ≠ x from by have := wf.lt j hj z hz; omega))
    clear g0 h
    go_enter Try.func29, Try.ntmps29
    go_wp2_with fail
    refine (rplace_none B _ _ m n L (H.out.keep B0.out) x HNO.out).mono ?_
    rintro e w2 ⟨rfl, b2⟩
    have B2 := Lib.hid (B0.out.trans (b2.mono B0.out.size))
    clear b2
    go_wp2_with fail
    go_ret
    exact ⟨rfl, B2.out⟩
  | none y e hy hin =>
    subst e
    have HNO := Lib.hid (inB_none hin)
    clear h
    go_enter Try.func29, Try.ntmps29
    go_wp2_with fail
    refine (rplace_none B _ _ m n L (H.out.keep B0.out) (y : Int) HNO.out).mono ?_
    rintro e w2 ⟨rfl, b2⟩
    have B2 := Lib.hid (B0.out.trans (b2.mono B0.out.size))
    clear b2
    go_wp2_with fail
    go_ret
    exact ⟨rfl, B2.out⟩
  | some y i a b e hy hi hL hna hno =>
    subst e
    have HP := Lib.hid (fun W (b : Below w.heap.size w W) => rplace_some B W _ m n L (H.out.keep b) hi hL hna (fun j hj => hno j (by omega) (by omega)))
    obtain ⟨bo, off, ai, ci, rfl, hv, hcc, hel⟩ := h.row hi
    have HV := Lib.hid hv
    have HEL := Lib.hid hel
    have hlen := congrArg List.length hL
    rw [List.length_append, List.length_cons] at hlen
    have h5 := wf.len i hi
    have HLI := Lib.hid hL
    clear h hel hv hna hno hL
    cases b with
    | nil =>
      have hll : (L i).length = a.length + 1 := by simpa using hlen
      clear hlen
      generalize hk : a.length = k at HP hll
      clear hk
      rw [hll] at HEL HV hcc h5
      clear hll HLI
      go_enter Try.func29, Try.ntmps29
      go_wp2_with fail
      refine (HP.out _ B0.out).mono ?_
      rintro e w2 ⟨rfl, b2⟩
      have B2 := Lib.hid (B0.out.trans (b2.mono B0.out.size))
      have y0 := blk_cell (below_blk b2 X0.out (blk_lt X0.out)) 0
      have z0 := HEL.out w2 B2.out
      clear b2
      go_wp2_with fail
      go_ret
      exact ⟨rfl, B2.out⟩
    | cons z b' =>
      have hz : (L i)[a.length + 1]? = some z := by rw [HLI.out]; simp
      have hlt : a.length + 1 < (L i).length := by rw [hlen, List.length_cons]; omega
      have E2 := HV.out.elemS (ilist_get hz)
      obtain ⟨b2', off2, rfl, _, _, hel2⟩ := E2
      have HEL2 := Lib.hid hel2
      clear hel2 hz hlen HLI
      generalize a.length = k at HP hlt HEL2
      generalize (L i).length = ll at HEL HV hcc h5 hlt
      have hne : ((k : Int) + 1 == (ll : Int)) = false := beq_eq_false_iff_ne.2 (by omega)
      go_enter Try.func29, Try.ntmps29
      go_wp2_with fail
      refine (HP.out _ B0.out).mono ?_
      rintro e w2 ⟨rfl, b2⟩
      have B2 := Lib.hid (B0.out.trans (b2.mono B0.out.size))
      have y0 := blk_cell (below_blk b2 X0.out (blk_lt X0.out)) 0
      have z0 := HEL.out w2 B2.out
      have z1 := HEL2.out w2 B2.out
      clear b2
      go_wp2_with fail
      go_ret
      exact ⟨rfl, B2.out⟩
theorem laq_get : ∀ (l : List Nat) (p : Int) (z : Nat), l[l.length - 1]? = some z → laq p l = z
  | [], _, _, h => by simp at h
  | [x], p, z, h => by simp at h; subst h; rfl
  | x :: y :: l, p, z, h => laq_get (y :: l) x z (by simpa using h)
set_option maxHeartbeats 1000000 in
theorem rends_any (B : Nat → Prop) (w : World) (v : Value) (m n : Nat) (L : Nat → List Nat) (h : RV B w v m n L) (wf : WF m n L) (i : Int) : Calls Try.prog 28 #[v, .int .i64 i] w fun e w' => e = .returned (.tuple #[.int .i64 (firstT m L i), .int .i64 (lastT m L i), .int .i64 (lenT m L i)]) ∧ Below w.heap.size w w' := by
  obtain ⟨aL, cL, rfl, hc⟩ := h.val
  have B0 := Lib.hid ((Below.refl w.heap.size w).alloc (Nat.le_refl _) (.cells #[.slice aL m cL, .int .i64 n] 29))
  by_cases g0 : i < 0 ∨ (m : Int) ≤ i
  · rw [show firstT m L i = -1 from if_pos g0, show lastT m L i = -1 from if_pos g0, show lenT m L i = 0 from if_pos g0]
    clear h
    by_cases g1 : i < 0
    · clear g0
      go_enter Try.func28, Try.ntmps28
      go_wp2_with fail
      go_ret3
      exact ⟨rfl, B0.out⟩
    · have g2 : (m : Int) ≤ i := by omega
      clear g0
      go_enter Try.func28, Try.ntmps28
      go_wp2_with fail
      go_ret3
      exact ⟨rfl, B0.out⟩
  · obtain ⟨j, rfl⟩ : ∃ j : Nat, i = j := ⟨i.toNat, by omega⟩
    have hj : j < m := by omega
    rw [show firstT m L j = hdq (L j) (-1) from if_neg g0, show lastT m L j = laq (-1) (L j) from if_neg g0, show lenT m L j = (L j).length from if_neg g0]
    obtain ⟨bo, off, ai, ci, rfl, hv, hcc, hel⟩ := h.row hj
    have h5 := wf.len j hj
    have z0 := hel _ B0.out
    clear hel g0
    cases hL : L j with
    | nil =>
      rw [hL] at z0
      clear h hv
      rw [show hdq [] (-1) = -1 from rfl, show laq (-1) [] = -1 from rfl]
      simp only [List.length_nil] at z0 ⊢
      go_enter Try.func28, Try.ntmps28
      go_wp2_with fail
      go_ret3
      exact ⟨rfl, B0.out⟩
    | cons u l =>
      obtain ⟨q, hq⟩ : ∃ q, (L j).length = q + 1 := ⟨l.length, by rw [hL]; rfl⟩
      have hu : (L j)[0]? = some u := by rw [hL]; rfl
      obtain ⟨z, hz⟩ : ∃ z, (L j)[q]? = some z := ⟨(L j)[q]'(by omega), List.getElem?_eq_getElem (by omega)⟩
      have hla : laq (-1) (L j) = z := laq_get _ _ _ (by rw [hq, Nat.add_sub_cancel]; exact hz)
      rw [← hL, hla, show hdq (L j) (-1) = u from by rw [hL]; rfl]
      obtain ⟨b2, off2, rfl, _, _, hel2⟩ := hv.elemS (ilist_get hu)
      obtain ⟨b3, off3, e3, _, _, hel3⟩ := hv.elemS (ilist_get hz)
      cases e3
      have z1 := cell_regrown (hel2 _ B0.out)
      have z2 := cell_regrown (hel3 _ B0.out)
      rw [Nat.add_zero] at z1
      rw [hq] at z0 h5 hcc ⊢
      have ew : IntKind.i64.wrap ((q : Int) + 1 - 1) = q := by
        rw [show (q : Int) + 1 - 1 = q from by omega]
        exact IntWalk.i64_in _ (by omega)
      have hq0 : ((q : Int) + 1 == 0) = false := beq_eq_false_iff_ne.2 (by omega)
      clear h hv hel2 hel3 hL hq hu hz hla
      go_enter Try.func28, Try.ntmps28
      go_wp2_with fail
      refine wp_region_quiet_below (by kernel_rfl) (by kernel_rfl) ?_
      repeat (first | go_big_quiet_step (fail) | quiet_step (fail))
      refine wpQuiet_nil ?_
      intro _ hw'
      obtain ⟨⟨dq, osq⟩, hw''⟩ := hw'
      subst hw''
      have B5 := B0.out.trans ((below_regrown _ dq osq).mono B0.out.size)
      go_wp2_with fail
      go_ret3
      exact ⟨rfl, B5⟩
end Go.Proofs.Ythjbggdcninckaa
