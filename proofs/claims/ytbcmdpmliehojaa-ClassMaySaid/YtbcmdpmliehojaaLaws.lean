/- The laws of class: plain parts and walks. -/
import Derived.Test.YtbcmdpmliehojaaTable
import Derived.Test.YtbcmdpmliehojaaSame
import Derived.IntWalk
namespace Go.Proofs.Ytbcmdpmliehojaa
open Go.RowKit

theorem may_le_last {l : List Int} (h : mayB l 4096 = true) : ∀ d j, j + d + 1 = l.length → l.getD j 0 ≤ lastC l
  | 0, j, hd => by unfold lastC; rw [show l.length - 1 = j from by omega]; exact Int.le_refl _
  | d + 1, j, hd => by
    have ih := may_le_last h d (j + 1) (by omega)
    obtain ⟨_, _, h2⟩ := mayB_iff.1 h
    have := (okC_succ.1 (h2 (j + 1) (by omega))).2.2.2
    omega
theorem may_le {l : List Int} (h : mayB l 4096 = true) {j : Nat} (hj : j < l.length) : l.getD j 0 ≤ lastC l := may_le_last h (l.length - 1 - j) j (by omega)
theorem may_mod {l : List Int} (h : mayB l 4096 = true) {j : Nat} (hj : j < l.length) : l.getD j 0 % 8 = 0 := ((mayB_iff.1 h).2.2 j hj).2.1
theorem Idx.congr {p q : Int → Bool} {l : List Int} {r : Int} (h : Idx p l r) (e : ∀ j, j < l.length → p (l.getD j 0) = q (l.getD j 0)) : Idx q l r := by
  rcases h with ⟨rfl, h⟩ | ⟨k, rfl, hk, hp, h⟩
  · exact .inl ⟨rfl, fun j hj => by rw [← e j hj]; exact h j hj⟩
  · exact .inr ⟨k, rfl, hk, by rw [← e k hk]; exact hp, fun j hj => by rw [← e j (by omega)]; exact h j hj⟩
theorem pick_none {l : List Int} (h : mayB l 4096 = true) {n : Int} (hn : lastC l < n) : pickP l n = -1 := by
  have hl := may_last h
  unfold pickP
  rw [if_neg (by omega)]
  rcases idxP_idx (geP n) l with ⟨h1, _⟩ | ⟨k, h1, h2, h3, _⟩
  · exact h1
  · have := may_le h h2
    simp only [geP, decide_eq_true_eq] at h3
    omega
theorem look_table {l : List Int} (h : mayB l 4096 = true) (n : Int) : lookP (tableP l) n = pickP l n := by
  have hl := may_last h
  have hw := words_eq h
  by_cases h1 : n < 1
  · unfold lookP pickP
    rw [if_pos (.inl h1), if_pos h1]
  · have hm := many_pos (n := n) (by omega)
    have hlen : (tableP l).length = wordsC l + 1 := tabTo_len _ _
    by_cases h2 : ((tableP l).length : Int) ≤ manyS n 8
    · unfold lookP
      rw [if_pos (.inr h2), pick_none h (by omega)]
    · unfold lookP
      rw [if_neg (by omega)]
      obtain ⟨k, hk⟩ : ∃ k : Nat, manyS n 8 = k + 1 := ⟨(manyS n 8 - 1).toNat, by omega⟩
      have e : (tableP l).getD (manyS n 8).toNat 0 = pickP l (8 * ((k : Int) + 1)) := by
        rw [hk, show ((k : Int) + 1).toNat = k + 1 from by omega]
        unfold tableP tabTo
        rw [List.getD_cons_succ]
        have hk2 : k < wordsC l := by omega
        simp [List.getD, hk2]
      rw [e]
      unfold pickP
      rw [if_neg (by omega), if_neg h1]
      refine ((idxP_idx (geP (8 * ((k : Int) + 1))) l).congr (fun j hj => ?_)).unique (idxP_idx (geP n) l)
      have := may_mod h hj
      unfold geP
      rw [decide_eq_decide]
      omega

set_option maxHeartbeats 4000000 in
theorem awake_any (w : World) : Calls Try.prog 8 #[] w fun e w' => e = .returned (.bool true) ∧ Below w.heap.size w w' := by
  have hb1 : Below w.heap.size w (w.alloc (.cells #[.int .i64 8, .int .i64 24] 3)) := (Below.refl _ _).alloc (Nat.le_refl _) _
  have hv : LV 0 (w.alloc (.cells #[.int .i64 8, .int .i64 24] 3)) (.slice (some ⟨w.heap.size, 0, none⟩) 2 2) [8, 24] :=
    lv_of_own (base := w.heap.size) ⟨rfl, .inr ⟨w.heap.size, 2, #[.int .i64 8, .int .i64 24], rfl, Nat.le_refl _, blk_new _ _, Nat.le_refl _, by decide, rfl, rfl⟩⟩ (Nat.zero_le _)
  have HV := Lib.hid hv
  have HB := Lib.hid hb1
  have HX : Hid (∀ k, ([8, 24] : List Int).getD k 0 ≤ 9223372036854775807) := Lib.hid (fun k => by
    match k with
    | 0 => decide
    | 1 => decide
    | k + 2 => simp)
  clear hv hb1
  go_enter Try.func8, Try.ntmps8
  go_wp2_with fail
  refine (table_any _ _ [8, 24] HV.out (by decide)).mono ?_
  rintro e w2 ⟨v2, rfl, l2, b2⟩
  rw [show tableP [8, 24] = [-1, 0, 1, 1] from by decide] at l2
  have L2 := Lib.hid l2
  have HV2 := Lib.hid (HV.out.keep b2)
  have HB2 := Lib.hid (HB.out.trans (b2.mono HB.out.size))
  obtain ⟨g, off, c, hv, hx⟩ := l2.elem (k := 0) (by decide)
  obtain ⟨g1, off1, c1, hv1, hx1⟩ := l2.elem (k := 1) (by decide)
  obtain ⟨g3, off3, c3, hv3, hx3⟩ := l2.elem (k := 3) (by decide)
  subst hv
  cases hv1
  cases hv3
  have Hx := Lib.hid hx
  have Hx1 := Lib.hid hx1
  have Hx3 := Lib.hid hx3
  clear hx hx1 hx3 l2
  go_wp2_with fail
  refine (may_any 0 _ _ [8, 24] 64 HV2.out).mono ?_
  rintro e w3 ⟨rfl, rfl⟩
  rw [show mayE [8, 24] 64 = 0 from by decide]
  go_wp2_with fail
  refine (may_any 0 _ _ [8, 24] 16 HV2.out).mono ?_
  rintro e w3 ⟨rfl, rfl⟩
  rw [show mayE [8, 24] 16 = 1 from by decide]
  go_wp2_with fail
  refine (pick_any 0 _ _ [8, 24] 9 HV2.out).mono ?_
  rintro e w3 ⟨rfl, b3⟩
  rw [show pickP [8, 24] 9 = 1 from by decide]
  have HV3 := Lib.hid (HV2.out.keep b3)
  have HB3 := Lib.hid (HB2.out.trans (b3.mono HB2.out.size))
  go_wp2_with fail
  refine (waste_any 0 _ _ [8, 24] 9 HV3.out HX.out).mono ?_
  rintro e w4 ⟨rfl, b4⟩
  rw [show wasteP [8, 24] 9 = 15 from by decide]
  have HV4 := Lib.hid (HV3.out.keep b4)
  have HB4 := Lib.hid (HB3.out.trans (b4.mono HB3.out.size))
  go_wp2_with fail
  refine (pick_any 0 _ _ [8, 24] 25 HV4.out).mono ?_
  rintro e w5 ⟨rfl, b5⟩
  rw [show pickP [8, 24] 25 = -1 from by decide]
  have HB5 := Lib.hid (HB4.out.trans (b5.mono HB4.out.size))
  have b25 := b3.trans ((b4.trans (b5.mono b4.size)).mono b3.size)
  have hx0 := Hx.out w5 b25
  have hx1 := Hx1.out w5 b25
  have hx3 := Hx3.out w5 b25
  have L5 := Lib.hid (L2.out.keep b25)
  simp only [Nat.add_zero, List.getD_cons_zero, List.getD_cons_succ] at hx0 hx1 hx3
  clear Hx Hx1 Hx3
  go_wp2_with fail
  refine (look_any 0 _ _ [-1, 0, 1, 1] 24 L5.out (by decide)).mono ?_
  rintro e w6 ⟨rfl, rfl⟩
  rw [show lookP [-1, 0, 1, 1] 24 = 1 from by decide]
  have HB6 := HB5.out
  go_wp2_with fail
  go_ret
  exact ⟨rfl, HB6⟩

set_option maxHeartbeats 2000000 in
theorem lawMay_any (w : World) (v : Value) (l : List Int) (page : Int) (h : LV 0 w v l) : Calls Try.prog 3 #[v, .int .i64 page] w fun e w' => e = .returned (.bool true) ∧ Below w.heap.size w w' := by
  have H := Lib.hid h
  obtain ⟨a, c, rfl, hc, hm, _, _⟩ := h
  unfold maxLen at hm
  by_cases h40 : l.length ≤ 40
  · go_enter Try.func3, Try.ntmps3
    go_wp2_with fail
    refine (awake_any _).mono ?_
    rintro e w1 ⟨rfl, b1⟩
    have H1 := Lib.hid (H.out.keep b1)
    go_wp2_with fail
    refine (may_any 0 _ _ l page H1.out).mono ?_
    rintro e w2 ⟨rfl, rfl⟩
    go_wp2_with fail
    refine (rmay02_any 0 _ _ l page H1.out).mono ?_
    rintro e w3 ⟨rfl, k3⟩
    have B3 := b1.trans ((below_of_keepF k3).mono b1.size)
    go_wp2_with fail
    go_ret
    exact ⟨rfl, B3⟩
  · have h41 : (40 : Int) < l.length := by omega
    clear h40
    go_enter Try.func3, Try.ntmps3
    go_wp2_with fail
    refine (awake_any _).mono ?_
    rintro e w1 ⟨rfl, b1⟩
    go_wp2_with fail
    go_ret
    exact ⟨rfl, b1⟩

set_option maxHeartbeats 2000000 in
theorem lawPicks_any (w : World) (v : Value) (l : List Int) (n : Int) (h : LV 0 w v l) (hx : ∀ k, l.getD k 0 ≤ 9223372036854775807) : Calls Try.prog 4 #[v, .int .i64 n] w fun e w' => e = .returned (.bool true) ∧ Below w.heap.size w w' := by
  have H := Lib.hid h
  have HX := Lib.hid hx
  obtain ⟨a, c, rfl, hc, hm, _, _⟩ := h
  unfold maxLen at hm
  clear hx
  by_cases h40 : l.length ≤ 40
  · go_enter Try.func4, Try.ntmps4
    go_wp2_with fail
    refine (awake_any _).mono ?_
    rintro e w1 ⟨rfl, b1⟩
    have H1 := Lib.hid (H.out.keep b1)
    go_wp2_with fail
    refine (pick_any 0 _ _ l n H1.out).mono ?_
    rintro e w2 ⟨rfl, b2⟩
    have H2 := Lib.hid (H1.out.keep b2)
    have B2 := Lib.hid (b1.trans (b2.mono b1.size))
    go_wp2_with fail
    refine (rpick_any 0 _ _ l n H2.out).mono ?_
    rintro e w3 ⟨rfl, rfl⟩
    go_wp2_with fail
    refine (waste_any 0 _ _ l n H2.out HX.out).mono ?_
    rintro e w4 ⟨rfl, b4⟩
    have H4 := Lib.hid (H2.out.keep b4)
    have B4 := Lib.hid (B2.out.trans (b4.mono B2.out.size))
    go_wp2_with fail
    refine (rwaste_any 0 _ _ l n H4.out HX.out).mono ?_
    rintro e w5 ⟨rfl, rfl⟩
    have B5 := B4.out
    go_wp2_with fail
    go_ret
    exact ⟨rfl, B5⟩
  · have h41 : (40 : Int) < l.length := by omega
    clear h40
    go_enter Try.func4, Try.ntmps4
    go_wp2_with fail
    refine (awake_any _).mono ?_
    rintro e w1 ⟨rfl, b1⟩
    go_wp2_with fail
    go_ret
    exact ⟨rfl, b1⟩

set_option maxHeartbeats 2000000 in
theorem lawLooks_any (w : World) (v : Value) (t : List Int) (n : Int) (h : LV 0 w v t) (hn : n ≤ 9223372036854775807) : Calls Try.prog 6 #[v, .int .i64 n] w fun e w' => e = .returned (.bool true) ∧ Below w.heap.size w w' := by
  have H := Lib.hid h
  obtain ⟨a, c, rfl, hc, hm, _, _⟩ := h
  unfold maxLen at hm
  by_cases h200 : t.length ≤ 200
  · go_enter Try.func6, Try.ntmps6
    go_wp2_with fail
    refine (awake_any _).mono ?_
    rintro e w1 ⟨rfl, b1⟩
    have H1 := Lib.hid (H.out.keep b1)
    go_wp2_with fail
    refine (look_any 0 _ _ t n H1.out hn).mono ?_
    rintro e w2 ⟨rfl, rfl⟩
    go_wp2_with fail
    refine (rlook_any 0 _ _ t n H1.out hn).mono ?_
    rintro e w3 ⟨rfl, rfl⟩
    go_wp2_with fail
    go_ret
    exact ⟨rfl, b1⟩
  · have h41 : (200 : Int) < t.length := by omega
    clear h200
    go_enter Try.func6, Try.ntmps6
    go_wp2_with fail
    refine (awake_any _).mono ?_
    rintro e w1 ⟨rfl, b1⟩
    go_wp2_with fail
    go_ret
    exact ⟨rfl, b1⟩

theorem mayE_no {l : List Int} {p : Int} (h : mayB l p = false) : mayE l p = 1 := by unfold mayE; rw [h]; rfl
theorem mayE_ok {l : List Int} {p : Int} (h : mayB l p = true) : mayE l p = 0 := if_pos h

set_option maxHeartbeats 2000000 in
theorem lawTables_any (w : World) (v : Value) (l : List Int) (n : Int) (h : LV 0 w v l) (hn : n ≤ 9223372036854775807) : Calls Try.prog 5 #[v, .int .i64 n] w fun e w' => e = .returned (.bool true) ∧ Below w.heap.size w w' := by
  have H := Lib.hid h
  obtain ⟨a, c, rfl, hc, hm, _, _⟩ := h
  unfold maxLen at hm
  cases hs : mayB l 4096 with
  | false =>
    have HS := Lib.hid (mayE_no hs)
    clear hs
    go_enter Try.func5, Try.ntmps5
    go_wp2_with fail
    refine (awake_any _).mono ?_
    rintro e w1 ⟨rfl, b1⟩
    go_wp2_with fail
    refine (rmay02_any 0 _ _ l 4096 (H.out.keep b1)).mono ?_
    rintro e w2 ⟨rfl, k2⟩
    rw [HS.out]
    have B2 := b1.trans ((below_of_keepF k2).mono b1.size)
    go_wp2_with fail
    go_ret
    exact ⟨rfl, B2⟩
  | true =>
    have HM := Lib.hid hs
    have HS := Lib.hid (mayE_ok hs)
    clear hs
    go_enter Try.func5, Try.ntmps5
    go_wp2_with fail
    refine (awake_any _).mono ?_
    rintro e w1 ⟨rfl, b1⟩
    go_wp2_with fail
    refine (rmay02_any 0 _ _ l 4096 (H.out.keep b1)).mono ?_
    rintro e w2 ⟨rfl, k2⟩
    rw [HS.out]
    have B2 := Lib.hid (b1.trans ((below_of_keepF k2).mono b1.size))
    have H2 := Lib.hid (H.out.keep B2.out)
    go_wp2_with fail
    refine (table_any _ _ l H2.out HM.out).mono ?_
    rintro e w3 ⟨v3, rfl, l3, b3⟩
    have L3 := Lib.hid l3
    have H3 := Lib.hid (H2.out.keep b3)
    have B3 := Lib.hid (B2.out.trans (b3.mono B2.out.size))
    clear l3
    go_wp2_with fail
    refine (rtable_any _ _ l H3.out HM.out).mono ?_
    rintro e w4 ⟨v4, rfl, l4, b4⟩
    have L4 := Lib.hid l4
    have L3' := Lib.hid (L3.out.keep b4)
    have H4 := Lib.hid (H3.out.keep b4)
    have B4 := Lib.hid (B3.out.trans (b4.mono B3.out.size))
    clear l4
    go_wp2_with fail
    refine (same_any 0 0 _ _ _ (tableP l) L3'.out L4.out).mono ?_
    rintro e w5 ⟨rfl, k5⟩
    have b5 := below_of_keepF k5
    have L5 := Lib.hid (L3'.out.keep b5)
    have H5 := Lib.hid (H4.out.keep b5)
    have B5 := Lib.hid (B4.out.trans (b5.mono B4.out.size))
    clear k5
    go_wp2_with fail
    refine (look_any 0 _ _ (tableP l) n L5.out hn).mono ?_
    rintro e w6 ⟨rfl, rfl⟩
    rw [look_table HM.out]
    go_wp2_with fail
    refine (rpick_any 0 _ _ l n H5.out).mono ?_
    rintro e w6 ⟨rfl, rfl⟩
    have B6 := B5.out
    go_wp2_with fail
    go_ret
    exact ⟨rfl, B6⟩
end Go.Proofs.Ytbcmdpmliehojaa
