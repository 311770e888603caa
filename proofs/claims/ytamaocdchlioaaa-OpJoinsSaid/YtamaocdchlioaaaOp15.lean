/- The law's own example: the walk (almerylaw19.awake). -/
import Derived.Test.YtamaocdchlioaaaOp14
import Derived.Lib.SlBytesConst
namespace Go.Proofs.Ytamaocdchlioaaa
open Go.RowKit
set_option linter.unusedVariables false

theorem opens_two (w : World) : OV ((w.alloc (.cells #[.int .u8 120] 5 (1, 2))).alloc (.cells #[.int .i64 6, .int .i64 0, .int .i64 0, .int .i64 0, .slice none 0 0, .int .i64 4, .int .i64 (-1), .int .i64 0, .int .i64 0, .slice (some ⟨w.heap.size, 0, none⟩) 1 1] 40)) (.slice (some ⟨w.heap.size + 1, 0, none⟩) 2 2) LT := by
  have h1 := own_ops (w.alloc (.cells #[.int .u8 120] 5 (1, 2))) 0 (Nat.zero_le _) [(pT, .slice none 0 0), (pW, .slice (some ⟨w.heap.size, 0, none⟩) 1 1)] (by show 2 ≤ maxLen; decide)
  have h2 := ov_of_own h1 (fun q hq => by
    have : q = (pT, Value.slice none 0 0) ∨ q = (pW, Value.slice (some ⟨w.heap.size, 0, none⟩) 1 1) := by simpa using hq
    rcases this with rfl | rfl
    · exact lb_nil _
    · exact (lb_x w).keep ((Below.refl _ _).alloc (Nat.le_refl _) _))
  have hz : (w.alloc (.cells #[.int .u8 120] 5 (1, 2))).heap.size = w.heap.size + 1 := by simp
  rw [hz] at h2
  exact h2
theorem opens_none (w : World) : OV (w.alloc (.cells #[.int .i64 0, .int .i64 0, .int .i64 0, .int .i64 0, .slice none 0 0] 40)) (.slice (some ⟨w.heap.size, 0, none⟩) 1 1) [op0] :=
  ov_of_own (own_ops w 0 (Nat.zero_le _) [(op0, .slice none 0 0)] (by unfold maxLen; decide)) (fun q hq => by
    have : q = (op0, Value.slice none 0 0) := by simpa using hq
    rw [this]; exact lb_nil _)
set_option maxRecDepth 100000 in
set_option maxHeartbeats 4000000 in
theorem awake_any (w : World) : Calls Try.prog 8 #[] w fun e w' => e = .returned (.bool true) ∧ Below w.heap.size w w' := by
  have HO := Lib.hid (opens_two w)
  have B0 := Lib.hid (((Below.refl w.heap.size w).alloc (Nat.le_refl _) (.cells #[.int .u8 120] 5 (1, 2))).alloc (by simp) (.cells #[.int .i64 6, .int .i64 0, .int .i64 0, .int .i64 0, .slice none 0 0, .int .i64 4, .int .i64 (-1), .int .i64 0, .int .i64 0, .slice (some ⟨w.heap.size, 0, none⟩) 1 1] 40))
  have kc := Lib.run_convert_bytes_const (P := Try.prog) w 25 5 #[.int .u8 120] 1 1 Try.underlying25 Try.underlying5
  go_enter Try.func8, Try.ntmps8
  go_wp2_with fail
  clear kc
  refine (put_any _ _ LT HO.out small_LT).mono ?_
  rintro e w1 ⟨v1, er, rfl, hp, b1⟩
  have B1 := Lib.hid (B0.out.trans (b1.mono B0.out.size))
  obtain ⟨_, rfl, hlb⟩ : allMay LT ∧ er = 0 ∧ LB w1 v1 (encTo LT LT.length) := by
    rcases hp with h | h
    · exact h
    · exact absurd (allMay_of_ok allOk_LT) h.1
  rw [encTo_all] at hlb
  have HL1 : Hid (LB w1 v1 ET) := Lib.hid hlb
  clear hp b1 hlb
  have HL2 := Lib.hid HL1.out
  obtain ⟨a1, c1, hv1, hc1, hcm, _, _⟩ := HL2.out
  rw [et_len] at hv1 hc1
  subst hv1
  unfold maxLen at hcm
  go_wp2_with fail
  refine (take_any _ _ ET HL1.out et_bytes (by rw [et_len]; omega)).mono ?_
  rintro e w2 ⟨lv, at_, er, rfl, ht, b2⟩
  have B2 := Lib.hid (B1.out.trans (b2.mono B1.out.size))
  have L2 := Lib.hid (HL1.out.keep b2)
  obtain ⟨rfl, rfl, hov⟩ : er = 0 ∧ at_ = 0 ∧ OV w2 lv LT := by
    unfold Takes at ht
    rw [takes_ET, et_len] at ht
    rcases ht with h | h
    · exact h.2
    · exact absurd h.1 (by decide)
  have O2 := Lib.hid hov
  clear ht b2 hov
  obtain ⟨b, off, cb, hvb, _, _, hx⟩ := L2.out.elem (k := 0) (by rw [et_len]; omega)
  rw [et_len] at hvb
  injection hvb with e1 e2 e3
  clear e2
  subst e1
  subst e3
  clear hx
  have hlb5 : LB w2 (.slice (some ⟨b, off, none⟩) 50 c1) (ET.take 50) := by
    have := lb_piece (c := c1) (by have := L2.out; rw [et_len]; exact this) 0 50 (by rw [et_len]; omega) (by omega) c1 (by omega) (by omega)
    rw [List.drop_zero, Nat.add_zero] at this
    exact this
  have L5 := Lib.hid hlb5
  clear hlb5
  go_wp2_with fail
  refine (take_any _ _ (ET.take 50) L5.out (bytes_take et_bytes 50) (by rw [List.length_take, et_len]; omega)).mono ?_
  rintro e w3 ⟨lv3, at3, er3, rfl, ht, b3⟩
  have B3 := Lib.hid (B2.out.trans (b3.mono B2.out.size))
  have L3 := Lib.hid (L2.out.keep b3)
  have O3 := Lib.hid (O2.out.keep b3)
  obtain ⟨rfl, rfl⟩ : er3 = 2 ∧ at3 = 27 := by
    unfold Takes at ht
    rw [takes_ET50, List.length_take, et_len] at ht
    rcases ht with h | h
    · exact absurd h.1 (by decide)
    · exact ⟨h.2.1, h.2.2.1⟩
  clear ht b3
  go_wp2_with fail
  have BA := Lib.hid (B3.out.alloc B3.out.size (.cells #[.int .i64 0, .int .i64 0, .int .i64 0, .int .i64 0, .slice none 0 0] 40))
  have O3' := Lib.hid (O3.out.keep ((Below.refl _ w3).alloc (Nat.le_refl _) (.cells #[.int .i64 0, .int .i64 0, .int .i64 0, .int .i64 0, .slice none 0 0] 40)))
  have L3' := Lib.hid (L3.out.keep ((Below.refl _ w3).alloc (Nat.le_refl _) (.cells #[.int .i64 0, .int .i64 0, .int .i64 0, .int .i64 0, .slice none 0 0] 40)))
  refine (put_any _ _ [op0] (opens_none w3) small_0).mono ?_
  rintro e w4 ⟨v4, er4, rfl, hp, b4⟩
  have B4 := Lib.hid (BA.out.trans (b4.mono BA.out.size))
  have L4 := Lib.hid (L3'.out.keep b4)
  have O4 := Lib.hid (O3'.out.keep b4)
  obtain rfl : er4 = 2 := by
    rcases hp with h | h
    · exact absurd h.1 not_may_0
    · exact h.2.1
  clear hp b4
  obtain ⟨ba, oa, ca, hva, _, _, hxa⟩ := L4.out.elem (k := 0) (by rw [et_len]; omega)
  obtain ⟨bb, ob, cc, hvb, _, _, hxb⟩ := L4.out.elem (k := 28) (by rw [et_len]; omega)
  injection hva with e1 e2 e3
  clear e2
  injection e1 with e1
  injection e1 with e4 e5
  subst e4; subst e5; subst e3
  injection hvb with e1 e2 e3
  clear e2
  injection e1 with e1
  injection e1 with e4 e5
  subst e4; subst e5
  have x0 := hxa w4 (Below.refl _ _)
  have x28 := hxb w4 (Below.refl _ _)
  rw [et_0, Nat.add_zero] at x0
  rw [et_28] at x28
  clear hxa hxb
  obtain ⟨bo, oo, co, dv, hlv, hco, _, hdv, hxo⟩ := O4.out.elem (i := 1) (by decide)
  have hlv' : lv = .slice (some ⟨bo, oo, none⟩) 2 co := hlv
  subst hlv'
  have y1 := (hxo w4 (Below.refl _ _)).2.1
  have y4 := (hxo w4 (Below.refl _ _)).2.2.2.2
  have y1' : w4.cell? ⟨bo, oo + 5 + 1, none⟩ = some (.int .i64 (-1)) := y1
  have y4' : w4.cell? ⟨bo, oo + 5 + 4, none⟩ = some dv := y4
  have hdx : LB w4 dv [120] := hdv
  have cv : (convert 25 9 dv).run Try.prog w4 = .ok (.string ⟨#[120]⟩) w4 := conv_lb hdx
  clear y1 y4 hxo hdv hdx hlv
  go_wp2_with fail

  go_ret
  exact ⟨rfl, B4.out⟩
end Go.Proofs.Ytamaocdchlioaaa
