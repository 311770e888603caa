/- The reference's Take: the walk (almeryref19.Take). -/
import Derived.Test.YtamaocdchlioaaaOp9
namespace Go.Proofs.Ytamaocdchlioaaa
open Go.RowKit
set_option linter.unusedVariables false

theorem takes_short {xs : List Int} {w : World} {qs : List (POp × Value)} {e : Nat} (h : Sofar xs w qs e) (hh : headB (xs.drop e) = false) (he : e < xs.length) (w' : World) : Takes xs w' (.slice none 0 0) e 2 := by
  have h1 := h.1.stop hh
  exact .inr ⟨by rw [h1]; exact he, rfl, by rw [h1], rfl⟩
theorem takes_all {xs : List Int} {w w' : World} {base : Nat} {v : Value} {qs : List (POp × Value)} (h : Sofar xs w qs xs.length) (ho : w'.ownsRow base 40 5 v qs.length (ocells qs)) (hb : Below w.heap.size w w') : Takes xs w' v 0 0 := by
  have h1 := h.1.done
  exact .inl ⟨by rw [h1], rfl, rfl, by rw [h1]; exact ov_of_own ho (h.2.keep hb)⟩
theorem short_head {xs : List Int} {e : Nat} (h : xs.length < e + 27) : headB (xs.drop e) = false := by
  cases hh : headB (xs.drop e) with
  | false => rfl
  | true =>
    have := (headB_iff.1 hh).1
    rw [List.length_drop] at this
    unfold sizeAt at this
    omega
theorem long_head {xs : List Int} {e m : Nat} (hm : m = nAt (xs.drop e)) (h : xs.length < e + 27 + m) : headB (xs.drop e) = false := by
  cases hh : headB (xs.drop e) with
  | false => rfl
  | true =>
    have := (headB_iff.1 hh).1
    rw [List.length_drop] at this
    unfold sizeAt at this
    omega
theorem head_of {xs : List Int} {e m : Nat} (hm : m = nAt (xs.drop e)) (h : e + 27 + m ≤ xs.length) : (opAt (xs.drop e)).d.length = m ∧ headB (xs.drop e) = mayK (opAt (xs.drop e)).k m := by
  have h1 : sizeAt (xs.drop e) ≤ (xs.drop e).length := by rw [List.length_drop]; unfold sizeAt; omega
  have h2 := opAt_len h1
  refine ⟨by rw [h2, hm], ?_⟩
  unfold headB mayP
  rw [decide_eq_true h1, h2, hm, Bool.true_and]
theorem below5 {B : Nat} {w W : World} (h : Below B w W) {g : Nat} (hg : B ≤ g) (u0 u1 u2 u3 u4 : Value) : Below B w (((((W.setCell ⟨g, 0, none⟩ u0).setCell ⟨g, 1, none⟩ u1).setCell ⟨g, 2, none⟩ u2).setCell ⟨g, 3, none⟩ u3).setCell ⟨g, 4, none⟩ u4) :=
  ((((h.setCell (by exact hg) _).setCell (by exact hg) _).setCell (by exact hg) _).setCell (by exact hg) _).setCell (by exact hg) _
theorem fill5 {W : World} {g : Nat} {t : TypeId} {c0 c1 c2 c3 c4 : Value} (h : W.heap[g]? = some (.cells #[c0, c1, c2, c3, c4] t (0, 0))) (u0 u1 u2 u3 u4 : Value) : (((((W.setCell ⟨g, 0, none⟩ u0).setCell ⟨g, 1, none⟩ u1).setCell ⟨g, 2, none⟩ u2).setCell ⟨g, 3, none⟩ u3).setCell ⟨g, 4, none⟩ u4).heap[g]? = some (.cells #[u0, u1, u2, u3, u4] t (0, 0)) :=
  blk_set (blk_set (blk_set (blk_set (blk_set h 0 u0) 1 u1) 2 u2) 3 u3) 4 u4
theorem lb_part {w : World} {b off c : Nat} {xs : List Int} (h : LB w (.slice (some ⟨b, off, none⟩) xs.length c) xs) (e m : Nat) (hk : e + 27 + m ≤ xs.length) : LB w (.slice (if c = e + 27 then some ⟨b, off, none⟩ else some ⟨b, off + (e + 27), none⟩) m (c - (e + 27))) ((xs.drop (e + 27)).take m) := by
  have hc : xs.length ≤ c ∧ c ≤ maxLen := by
    obtain ⟨_, _, hv, h1, h2, _⟩ := h
    injection hv with _ _ e3
    subst e3
    exact ⟨h1, h2⟩
  by_cases h27 : c = e + 27
  · have h0 : m = 0 := by omega
    subst h0
    rw [if_pos h27]
    exact lb_none rfl nofun (by omega)
  · rw [if_neg h27]
    exact lb_piece h (e + 27) m (by omega) (by omega) _ (by omega) (Nat.le_refl _)
set_option maxRecDepth 100000 in
set_option maxHeartbeats 8000000 in
theorem rtake_any (w : World) (v : Value) (xs : List Int) (h : LB w v xs) (hb : Bytes xs) (hl : xs.length ≤ 60000) : Calls Try.prog 13 #[v] w fun e w' => ∃ lv at_ er, e = .returned (.tuple #[lv, .int .i64 at_, .int .i64 er]) ∧ Takes xs w' lv at_ er ∧ Below w.heap.size w w' := by
  obtain ⟨i0, ei, ez0, ez1, ez2⟩ := info_parts Try.infoO
  have H := Lib.hid h
  have HB := Lib.hid hb
  obtain ⟨A, c, rfl, hc, hm, hA, _⟩ := h
  unfold maxLen at hm
  clear hb
  obtain ⟨n, hn⟩ : ∃ n, n = xs.length := ⟨_, rfl⟩
  rw [← hn] at H hc hl ⊢
  have HN := Lib.hid hn
  clear hn hA
  go_enter Try.func13, Try.ntmps13
  go_wp2_with fail
  go_loopw [5, 6] (fun ov av wr => ∃ (qs : List (POp × Value)) (q e : Nat), av = .int .i64 e ∧ e ≤ n ∧ Hid (q = qs.length) ∧ Hid (Sofar xs w qs e) ∧ q * 27 ≤ e ∧ wr.ownsRow w.heap.size 40 5 ov q (ocells qs) ∧ Below w.heap.size w wr) (fun _ av _ => n - (intOf av).toNat)
  case atStart => exact ⟨[], 0, 0, rfl, Nat.zero_le _, Lib.hid rfl, Lib.hid ⟨took_nil xs, fun q hq => (List.not_mem_nil hq).elim⟩, Nat.zero_le _, ⟨rfl, .inl ⟨rfl, rfl⟩⟩, Below.refl _ _⟩
  case round =>
    obtain ⟨qs, q, e, rfl, he, hq, hsf, hqe, ho, br⟩ := hrel
    have O := Lib.hid ho
    have BR := Lib.hid br
    clear ho br
    by_cases hlt : e < n
    · by_cases h27 : n < e + 27
      · have HT : Hid (∀ w', Takes xs w' (.slice none 0 0) e 2) := Lib.hid (takes_short hsf.out (short_head (by rw [← HN.out]; exact h27)) (by rw [← HN.out]; exact hlt))
        clear hsf
        go_wp2_with fail
        go_ret3
        exact ⟨_, _, _, rfl, HT.out _, BR.out⟩
      · obtain ⟨b, off, c', hv, _, _, hx⟩ := H.out.elem (k := e) (by rw [← HN.out]; exact hlt)
        have HX : Hid (∀ k, k < n → ∀ wr, Below w.heap.size w wr → wr.cell? ⟨b, off + k, none⟩ = some (.int .u8 (xs.getD k 0))) := Lib.hid (fun k hk wr hbw => by
          obtain ⟨b', off', c'', hv', _, _, hx'⟩ := H.out.elem (k := k) (by rw [← HN.out]; exact hk)
          rw [hv] at hv'
          injection hv' with e1 e2 e3
          injection e1 with e1
          injection e1 with e4 e5
          subst e4; subst e5
          exact hx' wr hbw)
        injection hv with e1 e2 e3
        subst e1
        subst e3
        clear hx e2
        have hb25 := HB.out (e + 25)
        have hb26 := HB.out (e + 26)
        have x25 := HX.out (e + 25) (by omega) wr BR.out
        have x26 := HX.out (e + 26) (by omega) wr BR.out
        obtain ⟨m, hm0⟩ : ∃ m, m = nAt (xs.drop e) := ⟨_, rfl⟩
        have hmI : (m : Int) = xs.getD (e + 25) 0 + 256 * xs.getD (e + 26) 0 := by
          rw [hm0, nAt_eq (bytes_drop HB.out e), drop_getD, drop_getD]
        have HM := Lib.hid hm0
        clear hm0
        generalize xs.getD (e + 25) 0 = y25 at hb25 x25 hmI
        generalize xs.getD (e + 26) 0 = y26 at hb26 x26 hmI
        have w1 : IntKind.i64.wrap ((e : Int) + 25) = (e : Int) + 25 := IntWalk.i64_in _ (by omega)
        have w2 : IntKind.i64.wrap ((e : Int) + 26) = (e : Int) + 26 := IntWalk.i64_in _ (by omega)
        have w3 : IntKind.i64.wrap y25 = y25 := IntWalk.i64_in _ (by omega)
        have w4 : IntKind.i64.wrap y26 = y26 := IntWalk.i64_in _ (by omega)
        have w5 : IntKind.i64.wrap (256 * y26) = 256 * y26 := IntWalk.i64_in _ (by omega)
        have w6 : IntKind.i64.wrap (y25 + 256 * y26) = (m : Int) := by rw [← hmI]; exact IntWalk.i64_in _ (by omega)
        go_wp2_with fail
        go_quiet (fail)
        clear w1 w2 w3 w4 w5 w6
        have B1 := Lib.hid (below_drewN BR.out nq)
        have O1 := Lib.hid (own_below O.out (below_drewN (Below.refl wr.heap.size wr) nq))
        clear x25 x26
        generalize wr.drewN nq = w1 at B1 O1 ⊢
        generalize hM : y25 + 256 * y26 = M at hmI ⊢
        obtain rfl : M = (m : Int) := hmI.symm
        clear hM hmI hb25 hb26
        by_cases hfit : e + 27 + m ≤ n
        · obtain ⟨hdl, hhd⟩ := head_of HM.out (by rw [← HN.out]; exact hfit)
          have HDL := Lib.hid hdl
          have HHD := Lib.hid hhd
          have x0 := HX.out e (by omega) w1 B1.out
          have hpk : xs.getD e 0 = (opAt (xs.drop e)).k := by show xs.getD e 0 = (xs.drop e).getD 0 0; rw [drop_getD, Nat.add_zero]
          have hk0 := HB.out e
          rw [hpk] at x0 hk0
          have hcell : ∀ o i, o + i < 27 → i < 8 → ∀ W, Below w1.heap.size w1 W → W.cell? ⟨b, off + (e + o) + i, none⟩ = some (.int .u8 (xs.getD (e + o + i) 0)) := fun o i h1 h2 W hW => by
            have := HX.out (e + o + i) (by omega) W (B1.out.trans (hW.mono B1.out.size))
            rw [← Nat.add_assoc] at this
            rw [Nat.add_assoc off (e + o) i, ← Nat.add_assoc off]
            exact this
          have hread : ∀ o cap, o + 8 ≤ 27 → ∀ W, Below w1.heap.size w1 W → Calls Try.prog 21 #[.slice (some ⟨b, off + (e + o), none⟩) 8 cap] W (fun e' w' => e' = .returned (.int .i64 (sgn (word (xs.drop e) o 8))) ∧ W = w') := fun o cap ho W hW => by
            have := read_any W b (off + (e + o)) cap (fun i => xs.getD (e + o + i) 0) (fun i _ => HB.out _) (fun i hi => hcell o i (by omega) hi W hW)
            rw [hor_drop] at this
            exact this
          have RA : Hid (∀ W, Below w1.heap.size w1 W → Calls Try.prog 21 #[.slice (some ⟨b, off + (e + 1), none⟩) 8 (c - (e + 1))] W (fun e' w' => e' = .returned (.int .i64 (opAt (xs.drop e)).a) ∧ W = w')) := Lib.hid (hread 1 _ (by omega))
          have RB : Hid (∀ W, Below w1.heap.size w1 W → Calls Try.prog 21 #[.slice (some ⟨b, off + (e + 9), none⟩) 8 (c - (e + 9))] W (fun e' w' => e' = .returned (.int .i64 (opAt (xs.drop e)).b) ∧ W = w')) := Lib.hid (hread 9 _ (by omega))
          have RC : Hid (∀ W, Below w1.heap.size w1 W → Calls Try.prog 21 #[.slice (some ⟨b, off + (e + 17), none⟩) 8 (c - (e + 17))] W (fun e' w' => e' = .returned (.int .i64 (opAt (xs.drop e)).c) ∧ W = w')) := Lib.hid (hread 17 _ (by omega))
          have hpd : (opAt (xs.drop e)).d = (xs.drop (e + 27)).take m := by show ((xs.drop e).drop 27).take (nAt (xs.drop e)) = _; rw [List.drop_drop, ← HM.out]
          have HPD := Lib.hid hpd
          have HST : Hid (∀ dv, headB (xs.drop e) = true → LB w dv (opAt (xs.drop e)).d → Sofar xs w (qs ++ [(opAt (xs.drop e), dv)]) (e + 27 + m)) := Lib.hid (fun dv h1 h2 => by
            have := hsf.out.step h1 h2
            unfold sizeAt at this
            rw [← HM.out, ← Nat.add_assoc] at this
            exact this)
          have HNO : Hid (headB (xs.drop e) = false → ∀ w', Takes xs w' (.slice none 0 0) e 2) := Lib.hid (fun h1 => takes_short hsf.out h1 (by rw [← HN.out]; exact hlt))
          clear hpk hcell hread hpd hdl hhd hsf
          generalize opAt (xs.drop e) = p at x0 hk0 RA RB RC HDL HHD HPD HST
          have HELD := Lib.hid (fun W (k : Below w1.heap.size w1 W) => (And.intro k ((k.cell (p := ⟨b, off + e, none⟩) (World.block_lt_of_cell? w1 _ x0)).trans x0) : Below w1.heap.size w1 W ∧ W.cell? ⟨b, off + e, none⟩ = some (.int .u8 p.k)))
          have mid : True := trivial
          obtain ⟨AD, hAD⟩ : ∃ AD, AD = (if c = e + 27 then some (⟨b, off, none⟩ : Addr) else some ⟨b, off + (e + 27), none⟩) := ⟨_, rfl⟩
          have HAD := Lib.hid hAD
          clear hAD
          have HLD : Hid (LB w (.slice AD m (c - (e + 27))) p.d) := Lib.hid (by rw [HPD.out, HAD.out]; exact lb_part (by rw [← HN.out]; exact H.out) e m (by rw [← HN.out]; exact hfit))
          go_wp2_with fail
          have s1 : IntKind.i64.wrap ((e : Int) + 1) = (e : Int) + 1 := IntWalk.i64_in _ (by omega)
          have t1 : ((e : Int) + 1).toNat = e + 1 := by omega
          have p1 : (0 : Int) ≤ (e : Int) + 1 := by omega
          have c1 : (e : Int) + 1 ≤ (c : Int) := by omega
          have s9 : IntKind.i64.wrap ((e : Int) + 9) = (e : Int) + 9 := IntWalk.i64_in _ (by omega)
          have t9 : ((e : Int) + 9).toNat = e + 9 := by omega
          have p9 : (0 : Int) ≤ (e : Int) + 9 := by omega
          have c9 : (e : Int) + 9 ≤ (c : Int) := by omega
          have s17 : IntKind.i64.wrap ((e : Int) + 17) = (e : Int) + 17 := IntWalk.i64_in _ (by omega)
          have t17 : ((e : Int) + 17).toNat = e + 17 := by omega
          have p17 : (0 : Int) ≤ (e : Int) + 17 := by omega
          have c17 : (e : Int) + 17 ≤ (c : Int) := by omega
          have s25 : IntKind.i64.wrap ((e : Int) + 25) = (e : Int) + 25 := IntWalk.i64_in _ (by omega)
          have t25 : ((e : Int) + 25).toNat = e + 25 := by omega
          have p25 : (0 : Int) ≤ (e : Int) + 25 := by omega
          have c25 : (e : Int) + 25 ≤ (c : Int) := by omega
          have s27 : IntKind.i64.wrap ((e : Int) + 27) = (e : Int) + 27 := IntWalk.i64_in _ (by omega)
          have t27 : ((e : Int) + 27).toNat = e + 27 := by omega
          have p27 : (0 : Int) ≤ (e : Int) + 27 := by omega
          have c27 : (e : Int) + 27 ≤ (c : Int) := by omega
          have s28 : IntKind.i64.wrap ((e : Int) + 27 + (m : Int)) = (e : Int) + 27 + (m : Int) := IntWalk.i64_in _ (by omega)
          have t28 : ((e : Int) + 27 + (m : Int)).toNat = e + 27 + m := by omega
          have p28 : (0 : Int) ≤ (e : Int) + 27 + (m : Int) := by omega
          have c28 : (e : Int) + 27 + (m : Int) ≤ (c : Int) := by omega
          have d1 : ¬ (c = e + 1) := by omega
          have d9 : ¬ (c = e + 9) := by omega
          have d17 : ¬ (c = e + 17) := by omega
          have o1 : (e : Int) + 1 ≤ (e : Int) + 9 := by omega
          have n1 : e + 9 - (e + 1) = 8 := by omega
          have o9 : (e : Int) + 9 ≤ (e : Int) + 17 := by omega
          have n9 : e + 17 - (e + 9) = 8 := by omega
          have o17 : (e : Int) + 17 ≤ (e : Int) + 25 := by omega
          have n17 : e + 25 - (e + 17) = 8 := by omega
          have o27 : (e : Int) + 27 ≤ (e : Int) + 27 + (m : Int) := by omega
          have n27 : e + 27 + m - (e + 27) = m := by omega
          have s0 : IntKind.i64.wrap p.k = p.k := IntWalk.i64_in _ (by omega)
          have d27 : (if c = e + 27 then some ⟨b, off, none⟩ else some ⟨b, off + (e + 27), none⟩) = AD := HAD.out.symm
          go_region_held3 (fun W => Below w1.heap.size w1 W ∧ W.cell? ⟨b, off + e, none⟩ = some (.int .u8 p.k))
            (first
              | exact HELD.out _ (Below.refl _ _)
              | exact HELD.out _ (below_drew (Below.refl _ _))
              | exact HELD.out _ ((below_drew (Below.refl _ _)).alloc (Nat.le_refl _) _)
              | exact HELD.out _ (below_drew ((Below.refl _ _).alloc (Nat.le_refl _) _))
              | exact HELD.out _ ((Below.refl _ _).alloc (Nat.le_refl _) _)
              | exact HELD.out _ (below5 ((below_drew (Below.refl _ _)).alloc (Nat.le_refl _) _) (Nat.le_refl _) _ _ _ _ _)
              | exact HELD.out _ (below5 (below_drew ((Below.refl _ _).alloc (Nat.le_refl _) _)) (Nat.le_refl _) _ _ _ _ _))
            (first
              | (go_at_call 21; (with_reducible refine (RA.out _ (by first | exact Below.refl _ _ | exact below_drew (Below.refl _ _) | exact below_drew ((Below.refl _ _).alloc (Nat.le_refl _) _))).mono ?_); rintro e w' ⟨rfl, rfl⟩)
              | (go_at_call 21; (with_reducible refine (RB.out _ (by first | exact Below.refl _ _ | exact below_drew (Below.refl _ _) | exact below_drew ((Below.refl _ _).alloc (Nat.le_refl _) _))).mono ?_); rintro e w' ⟨rfl, rfl⟩)
              | (go_at_call 21; (with_reducible refine (RC.out _ (by first | exact Below.refl _ _ | exact below_drew (Below.refl _ _) | exact below_drew ((Below.refl _ _).alloc (Nat.le_refl _) _))).mono ?_); rintro e w' ⟨rfl, rfl⟩))
          all_goals
            clear s1 t1 p1 c1 s9 t9 p9 c9 s17 t17 p17 c17 s25 t25 p25 c25 s27 t27 p27 c27 s28 t28 p28 c28 d1 d9 d17 o1 n1 o9 n9 o17 n17 o27 n27 s0 d27
            rename_i hH
            have bY := hH.1
            have hY : ((w1.alloc (.cells #[.int .i64 p.k, .int .i64 p.a, .int .i64 p.b, .int .i64 p.c, .slice AD m (c - (e + 27))] 40)).drew).heap[w1.heap.size]? = some (.cells #[.int .i64 p.k, .int .i64 p.a, .int .i64 p.b, .int .i64 p.c, .slice AD m (c - (e + 27))] 40) := blk_new w1 _
            clear hH
            generalize (w1.alloc (.cells #[.int .i64 p.k, .int .i64 p.a, .int .i64 p.b, .int .i64 p.c, .slice AD m (c - (e + 27))] 40)).drew = WY at bY hY ⊢
            have BY := Lib.hid (B1.out.trans (bY.mono B1.out.size))
            have OY := Lib.hid (own_below O1.out bY)
            have HYY := Lib.hid hY
            have y0 := blk_cell hY 0
            have y1 := blk_cell hY 1
            have y2 := blk_cell hY 2
            have y3 := blk_cell hY 3
            have y4 := blk_cell hY 4
            clear hY bY
            have hmk : mayK p.k m = true ∨ mayK p.k m = false := by cases mayK p.k m <;> simp
            rcases hmk with hmk | hmk
            · have HMK := Lib.hid hmk
              clear hmk
              go_wp2_with fail
              refine (rmay_any _ p.k p.a p.b p.c _ m _).mono ?_
              rw [HMK.out]
              rintro e' w2 ⟨rfl, b2⟩
              have B2 := Lib.hid (BY.out.trans (b2.mono BY.out.size))
              have O2 := Lib.hid (own_below OY.out b2)
              have H2 := Lib.hid (below_blk b2 HYY.out (blk_lt HYY.out))
              have hz2 := B2.out.size
              clear b2 y0 y1 y2 y3 y4
              have y0 := blk_cell H2.out 0
              have y1 := blk_cell H2.out 1
              have y2 := blk_cell H2.out 2
              have y3 := blk_cell H2.out 3
              have y4 := blk_cell H2.out 4
              have hnews := Lib.hid (new_cells w2 (ocells [(p, .slice AD m (c - (e + 27)))]) 40)
              go_wp2_with (at_builtin; refine wpList_append_own _ rfl _ _ 22 rfl w.heap.size 40 i0 (.agg #[.int .i64 0, .int .i64 0, .int .i64 0, .int .i64 0, .slice none 0 0]) 5 56 Try.underlying22 ei ez0 ez1 ez2 rfl (by decide) _ _ _ rfl (O2.out.alloc _) ⟨w2.heap.size, 0, none⟩ 1 1 _ rfl rfl hnews.out (by simp [ocells, Value.oneCell']) (by unfold maxLen; omega) (by omega) (by simp; omega) ?_; intro v5 w5 o5 hg5 _; have B5 := Lib.hid (below_append B2.out O2.out ((Keep.refl (fun _ => False) w2).alloc (.cells #[.int .i64 p.k, .int .i64 p.a, .int .i64 p.b, .int .i64 p.c, .slice AD m (c - (e + 27))] 40)) hg5 B2.out.size); have O5 := Lib.hid o5; clear o5 hg5 y0 y1 y2 y3 y4)
              go_roundw
              case rel => exact ⟨qs ++ [(p, .slice AD m (c - (e + 27)))], q + 1, e + 27 + m, by go_num, by omega, Lib.hid (by rw [List.length_append, ← hq.out]; rfl), Lib.hid (HST.out _ (HHD.out.trans HMK.out) HLD.out), by omega, by rw [ocells_app]; exact O5.out, B5.out⟩
              case measure => simp [intOf]; omega
            · have HMK := Lib.hid hmk
              clear hmk
              go_wp2_with fail
              refine (rmay_any _ p.k p.a p.b p.c _ m _).mono ?_
              rw [HMK.out]
              rintro e' w2 ⟨rfl, b2⟩
              have B2 := Lib.hid (BY.out.trans (b2.mono BY.out.size))
              clear b2 y0 y1 y2 y3 y4
              go_wp2_with fail
              go_ret3
              exact ⟨_, _, _, rfl, HNO.out (HHD.out.trans HMK.out) _, B2.out⟩
        · have HT : Hid (∀ w', Takes xs w' (.slice none 0 0) e 2) := Lib.hid (takes_short hsf.out (long_head HM.out (by rw [← HN.out]; omega)) (by rw [← HN.out]; exact hlt))
          clear hsf
          go_wp2_with fail
          go_ret3
          exact ⟨_, _, _, rfl, HT.out _, B1.out⟩
    · obtain rfl : e = n := by omega
      have hq' := hq.out
      have HT : Hid (∀ w' v', w'.ownsRow w.heap.size 40 5 v' q (ocells qs) → Below w.heap.size w w' → Takes xs w' v' 0 0) := Lib.hid (fun w' v' h1 h2 => takes_all (by rw [← HN.out]; exact hsf.out) (by rw [← hq.out]; exact h1) h2)
      clear hsf hq'
      go_wp2_with fail
      go_ret3
      exact ⟨_, _, _, rfl, HT.out _ _ O.out BR.out, BR.out⟩
end Go.Proofs.Ytamaocdchlioaaa
