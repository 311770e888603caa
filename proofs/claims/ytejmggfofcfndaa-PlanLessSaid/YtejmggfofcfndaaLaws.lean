/- The walks through the laws of plan. -/
import Derived.Test.YtejmggfofcfndaaMoves2
import Derived.Test.YtejmggfofcfndaaSame
namespace Go.Proofs.Ytejmggfofcfndaa
open Go.RowKit

theorem LV.of_cells {w : World} (B : Nat) (l : List Int) (hB : B ≤ w.heap.size) (hl : l.length ≤ maxLen) : LV B (w.alloc (.cells (icells l).toArray 3)) (.slice (some ⟨w.heap.size, 0, none⟩) l.length l.length) l := by
  have h : (w.alloc (.cells (icells l).toArray 3)).ownsRow w.heap.size 3 1 (.slice (some ⟨w.heap.size, 0, none⟩) l.length l.length) l.length (icells l) :=
    ⟨by simp [icells], .inr ⟨w.heap.size, l.length, (icells l).toArray, rfl, Nat.le_refl _, blk_new _ _, Nat.le_refl _, hl, by simp [icells], List.take_of_length_le (by simp [icells])⟩⟩
  exact lv_of_own h hB

set_option maxHeartbeats 2000000 in
theorem awake_any (w : World) : Calls Try.prog 8 #[] w fun e w' => e = .returned (.bool true) ∧ Below w.heap.size w w' := by
  have hb1 : Below w.heap.size w (w.alloc (.cells #[.int .i64 1, .int .i64 2, .int .i64 1] 3)) := (Below.refl _ _).alloc (Nat.le_refl _) _
  have hv : LV 0 (w.alloc (.cells #[.int .i64 1, .int .i64 2, .int .i64 1] 3)) (.slice (some ⟨w.heap.size, 0, none⟩) 3 3) [1, 2, 1] := LV.of_cells 0 [1, 2, 1] (Nat.zero_le _) (by decide)
  have HV := Lib.hid hv
  have HB := Lib.hid hb1
  clear hv hb1
  go_enter Try.func8, Try.ntmps8
  go_wp2_with fail
  refine (next_any 0 _ _ [1, 2, 1] 3 HV.out (Nat.zero_le _) (by decide) (by decide) (by decide)).mono ?_
  rintro e w2 ⟨v2, rfl, l2, b2⟩
  have hn : nextP [1, 2, 1] 3 = [2, 2] := by decide
  rw [hn] at l2
  clear hn
  have HV2 := Lib.hid (HV.out.keep b2)
  have HB2 := Lib.hid (HB.out.trans (b2.mono HB.out.size))
  obtain ⟨g, off, c, hv, hx⟩ := l2.elem (k := 0) (by decide)
  have hx1 := l2.elem (k := 1) (by decide)
  subst hv
  obtain ⟨g', off', c', hv', hx'⟩ := hx1
  cases hv'
  have Hx := Lib.hid hx
  have Hx' := Lib.hid hx'
  clear hx hx' l2
  go_wp2_with fail
  refine (may_any 0 _ _ [1, 2, 1] 3 HV2.out).mono ?_
  rintro e w3 ⟨rfl, b3⟩
  rw [show mayP [1, 2, 1] 3 = true from by decide]
  have HV3 := Lib.hid (HV2.out.keep b3)
  have HB3 := Lib.hid (HB2.out.trans (b3.mono HB2.out.size))
  go_wp2_with fail
  refine (may_any 0 _ _ [1, 2, 1] 2 HV3.out).mono ?_
  rintro e w4 ⟨rfl, b4⟩
  rw [show mayP [1, 2, 1] 2 = false from by decide]
  have HV4 := Lib.hid (HV3.out.keep b4)
  have HB4 := Lib.hid (HB3.out.trans (b4.mono HB3.out.size))
  have hx0 := Hx.out w4 (b3.trans (b4.mono b3.size))
  have hx1 := Hx'.out w4 (b3.trans (b4.mono b3.size))
  simp only [Nat.add_zero, List.getD_cons_zero, List.getD_cons_succ] at hx0 hx1
  clear Hx Hx'
  go_wp2_with fail
  refine (due_any _ 2 0 (by decide) (by decide)).mono ?_
  rintro e w5 ⟨rfl, rfl⟩
  rw [show dueP 2 0 = true from by decide]
  go_wp2_with fail
  refine (due_any _ 1 0 (by decide) (by decide)).mono ?_
  rintro e w5 ⟨rfl, rfl⟩
  rw [show dueP 1 0 = false from by decide]
  go_wp2_with fail
  refine (moves_any _ _ [1, 2, 1] 3 0 HV4.out (by decide) (by decide) (by decide) (by decide)).mono ?_
  rintro e w6 ⟨rfl, b6⟩
  rw [show ((movesP [1, 2, 1] 3 0 : Nat) : Int) = 2 from by decide]
  have HB6 := HB4.out.trans (b6.mono HB4.out.size)
  go_wp2_with fail
  go_ret
  exact ⟨rfl, HB6⟩

set_option maxHeartbeats 2000000 in
theorem lawMay_any (w : World) (v : Value) (l : List Int) (b k : Int) (h : LV 0 w v l) (hb : -9223372036854775808 ≤ b ∧ b ≤ 9223372036854775807) (hk : -9223372036854775808 ≤ k ∧ k ≤ 9223372036854775807) :
    Calls Try.prog 3 #[v, .int .i64 b, .int .i64 k] w fun e w' => e = .returned (.bool true) ∧ Below w.heap.size w w' := by
  have H := Lib.hid h
  obtain ⟨a, c, rfl, hc, hm, _, _⟩ := h
  unfold maxLen at hm
  by_cases h40 : l.length ≤ 40
  · go_enter Try.func3, Try.ntmps3
    go_wp2_with fail
    refine (awake_any _).mono ?_
    rintro e w1 ⟨rfl, b1⟩
    have H1 := Lib.hid (H.out.keep b1)
    go_wp2_with fail
    refine (may_any 0 _ _ l b H1.out).mono ?_
    rintro e w2 ⟨rfl, b2⟩
    have H2 := Lib.hid (H1.out.keep b2)
    have B2 := Lib.hid (b1.trans (b2.mono b1.size))
    go_wp2_with fail
    refine (rmay_any 0 _ _ l b H2.out).mono ?_
    rintro e w3 ⟨rfl, rfl⟩
    go_wp2_with fail
    refine (due_any _ b k hb hk).mono ?_
    rintro e w3 ⟨rfl, rfl⟩
    go_wp2_with fail
    refine (rdue_any _ b k hb.2 hk.1).mono ?_
    rintro e w3 ⟨rfl, rfl⟩
    go_wp2_with fail
    refine (due_any _ l.length k (by omega) hk).mono ?_
    rintro e w3 ⟨rfl, rfl⟩
    go_wp2_with fail
    refine (rdue_any _ l.length k (by omega) hk.1).mono ?_
    rintro e w3 ⟨rfl, rfl⟩
    go_wp2_with fail
    go_ret
    exact ⟨rfl, B2.out⟩
  · have h41 : (40 : Int) < l.length := by omega
    clear h40
    go_enter Try.func3, Try.ntmps3
    go_wp2_with fail
    refine (awake_any _).mono ?_
    rintro e w1 ⟨rfl, b1⟩
    go_wp2_with fail
    go_ret
    exact ⟨rfl, b1⟩

set_option maxHeartbeats 2000000 in
theorem lawNext_any (w : World) (v : Value) (l : List Int) (b k : Int) (h : LV 0 w v l) (hk : -9223372036854775808 ≤ k ∧ k ≤ 9223372036854775807) :
    Calls Try.prog 4 #[v, .int .i64 b, .int .i64 k] w fun e w' => e = .returned (.bool true) ∧ Below w.heap.size w w' := by
  have H := Lib.hid h
  obtain ⟨i0, ei, ez0, ez1, ez2⟩ := info_parts Try.infoI
  obtain ⟨a, c, rfl, hc, hm, _, _⟩ := h
  unfold maxLen at hm
  cases hs : smallP l b with
  | false =>
    have HS := Lib.hid hs
    clear hs
    go_enter Try.func4, Try.ntmps4
    go_wp2_with fail
    refine (awake_any _).mono ?_
    rintro e w1 ⟨rfl, b1⟩
    go_wp2_with fail
    refine (small_any 0 _ _ l b (H.out.keep b1)).mono ?_
    rintro e w2 ⟨rfl, rfl⟩
    rw [HS.out]
    go_wp2_with fail
    go_ret
    exact ⟨rfl, b1⟩
  | true =>
    obtain ⟨hl, hb, hmay⟩ := smallP_iff.1 hs
    have HS := Lib.hid hs
    have HM := Lib.hid hmay
    clear hs hmay
    go_enter Try.func4, Try.ntmps4
    go_wp2_with fail
    refine (awake_any _).mono ?_
    rintro e w1 ⟨rfl, b1⟩
    have H1 := Lib.hid (H.out.keep b1)
    go_wp2_with fail
    refine (small_any 0 _ _ l b H1.out).mono ?_
    rintro e w2 ⟨rfl, rfl⟩
    rw [HS.out]
    have oE := own_empty w1 w1.heap.size 3 1 (Nat.le_refl _)
    have bE : Below w1.heap.size w1 (w1.alloc (.cells #[] 3)) := (Below.refl _ _).alloc (Nat.le_refl _) _
    have Rv := Lib.hid (lv_readV (H1.out.keep bE))
    have BE := Lib.hid bE
    clear bE
    go_wp2_with (at_builtin; refine wpList_append_list _ rfl (.tmp 15) (.tmp 16) 22 rfl w1.heap.size 3 i0 (.int .i64 0) 1 8 Try.underlying22 ei ez0 ez1 ez2 rfl (by decide) _ _ _ rfl oE l.length (icells l) Rv.out (by simp [icells]) (icells_one _) (by unfold maxLen; omega) (by omega) (by simp) ?_; intro v3 w3 o3 hg3; have B3 := Lib.hid (below_append BE.out oE (Keep.refl _ _) hg3 BE.out.size); (simp only [Nat.zero_add, List.nil_append] at o3); have O3 := Lib.hid (lv_of_own (B := 0) o3 (Nat.zero_le _)); clear o3 hg3)
    have H3 := Lib.hid (H1.out.keep B3.out)
    have BW3 := Lib.hid (b1.trans (B3.out.mono b1.size))
    refine (next_any 0 _ _ l b H3.out (Nat.zero_le _) hl hb HM.out).mono ?_
    rintro e w4 ⟨v4, rfl, l4, b4⟩
    have L4 := Lib.hid l4
    have H4 := Lib.hid (H3.out.keep b4)
    have O4 := Lib.hid (O3.out.keep b4)
    have BW4 := Lib.hid (BW3.out.trans (b4.mono BW3.out.size))
    clear l4
    go_wp2_with fail
    refine (rnext_any 0 _ _ l b H4.out (Nat.zero_le _) hl hb HM.out).mono ?_
    rintro e w5 ⟨v5, rfl, l5, b5⟩
    have L5 := Lib.hid l5
    have L4' := Lib.hid (L4.out.keep b5)
    have H5 := Lib.hid (H4.out.keep b5)
    have O5 := Lib.hid (O4.out.keep b5)
    have BW5 := Lib.hid (BW4.out.trans (b5.mono BW4.out.size))
    clear l5
    go_wp2_with fail
    refine (same_any 0 0 _ _ _ (nextP l b) L4'.out L5.out).mono ?_
    rintro e w6 ⟨rfl, k6⟩
    have b6 := below_of_keepF k6
    have H6 := Lib.hid (H5.out.keep b6)
    have O6 := Lib.hid (O5.out.keep b6)
    have BW6 := Lib.hid (BW5.out.trans (b6.mono BW5.out.size))
    clear k6
    go_wp2_with fail
    refine (moves_any _ _ l b k H6.out hl hb HM.out hk).mono ?_
    rintro e w7 ⟨rfl, b7⟩
    have H7 := Lib.hid (H6.out.keep b7)
    have O7 := Lib.hid (O6.out.keep b7)
    have BW7 := Lib.hid (BW6.out.trans (b7.mono BW6.out.size))
    go_wp2_with fail
    refine (rmoves_any _ _ l b k H7.out hl hb HM.out hk).mono ?_
    rintro e w8 ⟨rfl, b8⟩
    have H8 := Lib.hid (H7.out.keep b8)
    have O8 := Lib.hid (O7.out.keep b8)
    have BW8 := Lib.hid (BW7.out.trans (b8.mono BW7.out.size))
    go_wp2_with fail
    refine (same_any 0 0 _ _ _ l H8.out O8.out).mono ?_
    rintro e w9 ⟨rfl, k9⟩
    have BW9 := BW8.out.trans ((below_of_keepF k9).mono BW8.out.size)
    go_wp2_with fail
    go_ret
    exact ⟨rfl, BW9⟩
end Go.Proofs.Ytejmggfofcfndaa
