/- The walk through the law RatioParts. -/
import Derived.Test.YtdjlklkmobpohaaLawSums
import Derived.Test.YtdjlklkmobpohaaQuo
namespace Go.Proofs.Ytdjlklkmobpohaa
open Go.RowKit Ieee
attribute [local go_sem] run_store_float

theorem parts_0 (w : World) : Calls Try.prog 3 #[.int .i64 0, .int .i64 0] w fun e w' => e = .returned (.bool true) ∧ Below w.heap.size w w' := by
  have h0 := quo_facts 0 0
  go_enter Try.func3, Try.ntmps3
  go_wp2_with fail
  refine (awake_any _).mono ?_
  rintro e w1 ⟨rfl, b1⟩
  go_wp2_with fail
  refine (part_any _ 0 0).mono ?_
  rintro e w2 ⟨x, rfl, hx, b2⟩
  have b3 := below_after b1 b2 b1.size
  obtain ⟨q1, q2⟩ := h0 x (by omega) (by omega) hx
  have qn : decide (isN x) = true := by rw [decide_eq_true_iff, q1]; simp
  have hxl := hx.2
  have Hx := Lib.hid hx
  clear hx q1 q2 h0
  go_wp2_with fail
  refine (rpart_any _ 0 0).mono ?_
  rintro e w3 ⟨y, rfl, hy, b4⟩
  have b5 := below_after b3 b4 b3.size
  have hs := same_of _ _ (fr_eq (.inr rfl) (.inl rfl) Hx.out hy)
  have hyl := hy.2
  clear hy
  go_wp2_with fail
  refine (same_any _ x y hxl hyl).mono ?_
  rintro e w4 ⟨rfl, rfl⟩
  rw [hs]
  go_wp2_with fail
  refine (num_any _ x hxl).mono ?_
  rintro e w4 ⟨rfl, rfl⟩
  rw [qn]
  go_wp2_with fail
  go_ret
  exact ⟨rfl, b5⟩
theorem parts_1 (w : World) (b : Int) (hb : b < 0) (hb1 : -9223372036854775808 ≤ b) : Calls Try.prog 3 #[.int .i64 0, .int .i64 b] w fun e w' => e = .returned (.bool true) ∧ Below w.heap.size w w' := by
  have h0 := quo_facts 0 b
  go_enter Try.func3, Try.ntmps3
  go_wp2_with fail
  refine (awake_any _).mono ?_
  rintro e w1 ⟨rfl, b1⟩
  go_wp2_with fail
  refine (part_any _ 0 b).mono ?_
  rintro e w2 ⟨x, rfl, hx, b2⟩
  have b3 := below_after b1 b2 b1.size
  obtain ⟨q1, q2⟩ := h0 x (by omega) (by omega) hx
  have qn : decide (isN x) = false := by rw [decide_eq_false_iff_not, q1]; omega
  have zb : (b != 0) = true := bne_iff_ne.2 (by omega)
  have hxl := hx.2
  have Hx := Lib.hid hx
  clear hx q1 q2 h0
  go_wp2_with fail
  refine (rpart_any _ 0 b).mono ?_
  rintro e w3 ⟨y, rfl, hy, b4⟩
  have b5 := below_after b3 b4 b3.size
  have hs := same_of _ _ (fr_eq (.inr rfl) (.inl rfl) Hx.out hy)
  have hyl := hy.2
  clear hy
  go_wp2_with fail
  refine (same_any _ x y hxl hyl).mono ?_
  rintro e w4 ⟨rfl, rfl⟩
  rw [hs]
  go_wp2_with fail
  refine (num_any _ x hxl).mono ?_
  rintro e w4 ⟨rfl, rfl⟩
  rw [qn]
  go_wp2_with fail
  go_ret
  exact ⟨rfl, b5⟩
theorem parts_2 (w : World) (b : Int) (hb : 0 < b) (hb2 : b ≤ 9223372036854775807) : Calls Try.prog 3 #[.int .i64 0, .int .i64 b] w fun e w' => e = .returned (.bool true) ∧ Below w.heap.size w w' := by
  have h0 := quo_facts 0 b
  go_enter Try.func3, Try.ntmps3
  go_wp2_with fail
  refine (awake_any _).mono ?_
  rintro e w1 ⟨rfl, b1⟩
  go_wp2_with fail
  refine (part_any _ 0 b).mono ?_
  rintro e w2 ⟨x, rfl, hx, b2⟩
  have b3 := below_after b1 b2 b1.size
  obtain ⟨q1, q2⟩ := h0 x (by omega) (by omega) hx
  have qn : decide (isN x) = false := by rw [decide_eq_false_iff_not, q1]; omega
  have d1 : decide (b < 1) = false := by rw [decide_eq_false_iff_not]; omega
  have ql : (FloatKind.f64.format.order x 0 == some .lt) = false := by rw [q2 (by omega)]; simp
  have zb : (b != 0) = true := bne_iff_ne.2 (by omega)
  have hxl := hx.2
  have Hx := Lib.hid hx
  clear hx q1 q2 h0
  go_wp2_with fail
  refine (rpart_any _ 0 b).mono ?_
  rintro e w3 ⟨y, rfl, hy, b4⟩
  have b5 := below_after b3 b4 b3.size
  have hs := same_of _ _ (fr_eq (.inr rfl) (.inl rfl) Hx.out hy)
  have hyl := hy.2
  clear hy
  go_wp2_with fail
  refine (same_any _ x y hxl hyl).mono ?_
  rintro e w4 ⟨rfl, rfl⟩
  rw [hs]
  go_wp2_with fail
  refine (num_any _ x hxl).mono ?_
  rintro e w4 ⟨rfl, rfl⟩
  rw [qn]
  go_wp2_with fail
  go_ret
  exact ⟨rfl, b5⟩
theorem parts_3 (w : World) (a : Int) (ha : a < 0) (ha1 : -9223372036854775808 ≤ a) : Calls Try.prog 3 #[.int .i64 a, .int .i64 0] w fun e w' => e = .returned (.bool true) ∧ Below w.heap.size w w' := by
  have h0 := quo_facts a 0
  go_enter Try.func3, Try.ntmps3
  go_wp2_with fail
  refine (awake_any _).mono ?_
  rintro e w1 ⟨rfl, b1⟩
  go_wp2_with fail
  refine (part_any _ a 0).mono ?_
  rintro e w2 ⟨x, rfl, hx, b2⟩
  have b3 := below_after b1 b2 b1.size
  obtain ⟨q1, q2⟩ := h0 x (by omega) (by omega) hx
  have qn : decide (isN x) = false := by rw [decide_eq_false_iff_not, q1]; omega
  have za : (a != 0) = true := bne_iff_ne.2 (by omega)
  have hxl := hx.2
  have Hx := Lib.hid hx
  clear hx q1 q2 h0
  go_wp2_with fail
  refine (rpart_any _ a 0).mono ?_
  rintro e w3 ⟨y, rfl, hy, b4⟩
  have b5 := below_after b3 b4 b3.size
  have hs := same_of _ _ (fr_eq (.inr rfl) (.inl rfl) Hx.out hy)
  have hyl := hy.2
  clear hy
  go_wp2_with fail
  refine (same_any _ x y hxl hyl).mono ?_
  rintro e w4 ⟨rfl, rfl⟩
  rw [hs]
  go_wp2_with fail
  refine (num_any _ x hxl).mono ?_
  rintro e w4 ⟨rfl, rfl⟩
  rw [qn]
  go_wp2_with fail
  go_ret
  exact ⟨rfl, b5⟩
theorem parts_4 (w : World) (a b : Int) (ha : a < 0) (ha1 : -9223372036854775808 ≤ a) (hb : b < 0) (hb1 : -9223372036854775808 ≤ b) : Calls Try.prog 3 #[.int .i64 a, .int .i64 b] w fun e w' => e = .returned (.bool true) ∧ Below w.heap.size w w' := by
  have h0 := quo_facts a b
  go_enter Try.func3, Try.ntmps3
  go_wp2_with fail
  refine (awake_any _).mono ?_
  rintro e w1 ⟨rfl, b1⟩
  go_wp2_with fail
  refine (part_any _ a b).mono ?_
  rintro e w2 ⟨x, rfl, hx, b2⟩
  have b3 := below_after b1 b2 b1.size
  obtain ⟨q1, q2⟩ := h0 x (by omega) (by omega) hx
  have qn : decide (isN x) = false := by rw [decide_eq_false_iff_not, q1]; omega
  have za : (a != 0) = true := bne_iff_ne.2 (by omega)
  have zb : (b != 0) = true := bne_iff_ne.2 (by omega)
  have hxl := hx.2
  have Hx := Lib.hid hx
  clear hx q1 q2 h0
  go_wp2_with fail
  refine (rpart_any _ a b).mono ?_
  rintro e w3 ⟨y, rfl, hy, b4⟩
  have b5 := below_after b3 b4 b3.size
  have hs := same_of _ _ (fr_eq (.inr rfl) (.inl rfl) Hx.out hy)
  have hyl := hy.2
  clear hy
  go_wp2_with fail
  refine (same_any _ x y hxl hyl).mono ?_
  rintro e w4 ⟨rfl, rfl⟩
  rw [hs]
  go_wp2_with fail
  refine (num_any _ x hxl).mono ?_
  rintro e w4 ⟨rfl, rfl⟩
  rw [qn]
  go_wp2_with fail
  go_ret
  exact ⟨rfl, b5⟩
theorem parts_5 (w : World) (a b : Int) (ha : a < 0) (ha1 : -9223372036854775808 ≤ a) (hb : 0 < b) (hb2 : b ≤ 9223372036854775807) : Calls Try.prog 3 #[.int .i64 a, .int .i64 b] w fun e w' => e = .returned (.bool true) ∧ Below w.heap.size w w' := by
  have h0 := quo_facts a b
  go_enter Try.func3, Try.ntmps3
  go_wp2_with fail
  refine (awake_any _).mono ?_
  rintro e w1 ⟨rfl, b1⟩
  go_wp2_with fail
  refine (part_any _ a b).mono ?_
  rintro e w2 ⟨x, rfl, hx, b2⟩
  have b3 := below_after b1 b2 b1.size
  obtain ⟨q1, q2⟩ := h0 x (by omega) (by omega) hx
  have qn : decide (isN x) = false := by rw [decide_eq_false_iff_not, q1]; omega
  have d1 : decide (b < 1) = false := by rw [decide_eq_false_iff_not]; omega
  have ql : (FloatKind.f64.format.order x 0 == some .lt) = true := by rw [q2 (by omega)]; simp; omega
  have za : (a != 0) = true := bne_iff_ne.2 (by omega)
  have zb : (b != 0) = true := bne_iff_ne.2 (by omega)
  have hxl := hx.2
  have Hx := Lib.hid hx
  clear hx q1 q2 h0
  go_wp2_with fail
  refine (rpart_any _ a b).mono ?_
  rintro e w3 ⟨y, rfl, hy, b4⟩
  have b5 := below_after b3 b4 b3.size
  have hs := same_of _ _ (fr_eq (.inr rfl) (.inl rfl) Hx.out hy)
  have hyl := hy.2
  clear hy
  go_wp2_with fail
  refine (same_any _ x y hxl hyl).mono ?_
  rintro e w4 ⟨rfl, rfl⟩
  rw [hs]
  go_wp2_with fail
  refine (num_any _ x hxl).mono ?_
  rintro e w4 ⟨rfl, rfl⟩
  rw [qn]
  go_wp2_with fail
  go_ret
  exact ⟨rfl, b5⟩
theorem parts_6 (w : World) (a : Int) (ha : 0 < a) (ha2 : a ≤ 9223372036854775807) : Calls Try.prog 3 #[.int .i64 a, .int .i64 0] w fun e w' => e = .returned (.bool true) ∧ Below w.heap.size w w' := by
  have h0 := quo_facts a 0
  go_enter Try.func3, Try.ntmps3
  go_wp2_with fail
  refine (awake_any _).mono ?_
  rintro e w1 ⟨rfl, b1⟩
  go_wp2_with fail
  refine (part_any _ a 0).mono ?_
  rintro e w2 ⟨x, rfl, hx, b2⟩
  have b3 := below_after b1 b2 b1.size
  obtain ⟨q1, q2⟩ := h0 x (by omega) (by omega) hx
  have qn : decide (isN x) = false := by rw [decide_eq_false_iff_not, q1]; omega
  have za : (a != 0) = true := bne_iff_ne.2 (by omega)
  have hxl := hx.2
  have Hx := Lib.hid hx
  clear hx q1 q2 h0
  go_wp2_with fail
  refine (rpart_any _ a 0).mono ?_
  rintro e w3 ⟨y, rfl, hy, b4⟩
  have b5 := below_after b3 b4 b3.size
  have hs := same_of _ _ (fr_eq (.inr rfl) (.inl rfl) Hx.out hy)
  have hyl := hy.2
  clear hy
  go_wp2_with fail
  refine (same_any _ x y hxl hyl).mono ?_
  rintro e w4 ⟨rfl, rfl⟩
  rw [hs]
  go_wp2_with fail
  refine (num_any _ x hxl).mono ?_
  rintro e w4 ⟨rfl, rfl⟩
  rw [qn]
  go_wp2_with fail
  go_ret
  exact ⟨rfl, b5⟩
theorem parts_7 (w : World) (a b : Int) (ha : 0 < a) (ha2 : a ≤ 9223372036854775807) (hb : b < 0) (hb1 : -9223372036854775808 ≤ b) : Calls Try.prog 3 #[.int .i64 a, .int .i64 b] w fun e w' => e = .returned (.bool true) ∧ Below w.heap.size w w' := by
  have h0 := quo_facts a b
  go_enter Try.func3, Try.ntmps3
  go_wp2_with fail
  refine (awake_any _).mono ?_
  rintro e w1 ⟨rfl, b1⟩
  go_wp2_with fail
  refine (part_any _ a b).mono ?_
  rintro e w2 ⟨x, rfl, hx, b2⟩
  have b3 := below_after b1 b2 b1.size
  obtain ⟨q1, q2⟩ := h0 x (by omega) (by omega) hx
  have qn : decide (isN x) = false := by rw [decide_eq_false_iff_not, q1]; omega
  have za : (a != 0) = true := bne_iff_ne.2 (by omega)
  have zb : (b != 0) = true := bne_iff_ne.2 (by omega)
  have hxl := hx.2
  have Hx := Lib.hid hx
  clear hx q1 q2 h0
  go_wp2_with fail
  refine (rpart_any _ a b).mono ?_
  rintro e w3 ⟨y, rfl, hy, b4⟩
  have b5 := below_after b3 b4 b3.size
  have hs := same_of _ _ (fr_eq (.inr rfl) (.inl rfl) Hx.out hy)
  have hyl := hy.2
  clear hy
  go_wp2_with fail
  refine (same_any _ x y hxl hyl).mono ?_
  rintro e w4 ⟨rfl, rfl⟩
  rw [hs]
  go_wp2_with fail
  refine (num_any _ x hxl).mono ?_
  rintro e w4 ⟨rfl, rfl⟩
  rw [qn]
  go_wp2_with fail
  go_ret
  exact ⟨rfl, b5⟩
theorem parts_8 (w : World) (a b : Int) (ha : 0 < a) (ha2 : a ≤ 9223372036854775807) (hb : 0 < b) (hb2 : b ≤ 9223372036854775807) : Calls Try.prog 3 #[.int .i64 a, .int .i64 b] w fun e w' => e = .returned (.bool true) ∧ Below w.heap.size w w' := by
  have h0 := quo_facts a b
  go_enter Try.func3, Try.ntmps3
  go_wp2_with fail
  refine (awake_any _).mono ?_
  rintro e w1 ⟨rfl, b1⟩
  go_wp2_with fail
  refine (part_any _ a b).mono ?_
  rintro e w2 ⟨x, rfl, hx, b2⟩
  have b3 := below_after b1 b2 b1.size
  obtain ⟨q1, q2⟩ := h0 x (by omega) (by omega) hx
  have qn : decide (isN x) = false := by rw [decide_eq_false_iff_not, q1]; omega
  have d1 : decide (b < 1) = false := by rw [decide_eq_false_iff_not]; omega
  have ql : (FloatKind.f64.format.order x 0 == some .lt) = false := by rw [q2 (by omega)]; simp; omega
  have d0 : decide (a < 0) = false := by rw [decide_eq_false_iff_not]; omega
  have za : (a != 0) = true := bne_iff_ne.2 (by omega)
  have zb : (b != 0) = true := bne_iff_ne.2 (by omega)
  have hxl := hx.2
  have Hx := Lib.hid hx
  clear hx q1 q2 h0
  go_wp2_with fail
  refine (rpart_any _ a b).mono ?_
  rintro e w3 ⟨y, rfl, hy, b4⟩
  have b5 := below_after b3 b4 b3.size
  have hs := same_of _ _ (fr_eq (.inr rfl) (.inl rfl) Hx.out hy)
  have hyl := hy.2
  clear hy
  go_wp2_with fail
  refine (same_any _ x y hxl hyl).mono ?_
  rintro e w4 ⟨rfl, rfl⟩
  rw [hs]
  go_wp2_with fail
  refine (num_any _ x hxl).mono ?_
  rintro e w4 ⟨rfl, rfl⟩
  rw [qn]
  go_wp2_with fail
  go_ret
  exact ⟨rfl, b5⟩
theorem lawParts_any (w : World) (a b : Int) (ha : -9223372036854775808 ≤ a ∧ a ≤ 9223372036854775807) (hb : -9223372036854775808 ≤ b ∧ b ≤ 9223372036854775807) :
    Calls Try.prog 3 #[.int .i64 a, .int .i64 b] w fun e w' => e = .returned (.bool true) ∧ Below w.heap.size w w' := by
  rcases (show a = 0 ∨ a < 0 ∨ 0 < a from by omega) with rfl | h | h <;> rcases (show b = 0 ∨ b < 0 ∨ 0 < b from by omega) with rfl | k | k
  · exact parts_0 w
  · exact parts_1 w b k hb.1
  · exact parts_2 w b k hb.2
  · exact parts_3 w a h ha.1
  · exact parts_4 w a b h ha.1 k hb.1
  · exact parts_5 w a b h ha.1 k hb.2
  · exact parts_6 w a h ha.2
  · exact parts_7 w a b h ha.2 k hb.1
  · exact parts_8 w a b h ha.2 k hb.2
end Go.Proofs.Ytdjlklkmobpohaa
