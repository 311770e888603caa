/- The contracts of proxy's methods, as steps of a table's state. -/
import Derived.Test.YtkbifnbblimnlaaRow
import Derived.Test.YtkbifnbblimnlaaIdent
import Derived.Test.YtkbifnbblimnlaaLV
import Derived.IntWalk
namespace Go.Proofs.Ytkbifnbblimnlaa
open Go.RowKit
set_option linter.unusedVariables false

def tf (wh gn nx : Nat → Int) (j : Nat) : Value := if j % 3 = 0 then .int .i64 (wh (j / 3)) else if j % 3 = 1 then .int .i64 (gn (j / 3)) else .int .i64 (nx (j / 3))
theorem tf_wh (wh gn nx : Nat → Int) (i : Nat) : tf wh gn nx (i * 3) = .int .i64 (wh i) := by unfold tf; rw [if_pos (by omega), show i * 3 / 3 = i from by omega]
theorem tf_gn (wh gn nx : Nat → Int) (i : Nat) : tf wh gn nx (i * 3 + 1) = .int .i64 (gn i) := by unfold tf; rw [if_neg (by omega), if_pos (by omega), show (i * 3 + 1) / 3 = i from by omega]
theorem tf_nx (wh gn nx : Nat → Int) (i : Nat) : tf wh gn nx (i * 3 + 2) = .int .i64 (nx i) := by unfold tf; rw [if_neg (by omega), if_neg (by omega), show (i * 3 + 2) / 3 = i from by omega]
theorem tf_set_wh (wh gn nx : Nat → Int) (i : Nat) (v : Int) (j : Nat) : (if j = i * 3 then .int .i64 v else tf wh gn nx j) = tf (upd wh i v) gn nx j := by
  unfold tf upd
  by_cases h : j = i * 3
  · rw [if_pos h, if_pos (by omega), if_pos (by omega)]
  · rw [if_neg h]
    by_cases h2 : j % 3 = 0
    · rw [if_pos h2, if_pos h2, if_neg (by omega)]
    · rw [if_neg h2, if_neg h2]
theorem tf_set_gn (wh gn nx : Nat → Int) (i : Nat) (v : Int) (j : Nat) : (if j = i * 3 + 1 then .int .i64 v else tf wh gn nx j) = tf wh (upd gn i v) nx j := by
  unfold tf upd
  by_cases h : j = i * 3 + 1
  · rw [if_pos h, if_neg (by omega), if_pos (by omega), if_pos (by omega)]
  · rw [if_neg h]
    by_cases h2 : j % 3 = 0
    · rw [if_pos h2, if_pos h2]
    · rw [if_neg h2, if_neg h2]
      by_cases h3 : j % 3 = 1
      · rw [if_pos h3, if_pos h3, if_neg (by omega)]
      · rw [if_neg h3, if_neg h3]
theorem tf_set_nx (wh gn nx : Nat → Int) (i : Nat) (v : Int) (j : Nat) : (if j = i * 3 + 2 then .int .i64 v else tf wh gn nx j) = tf wh gn (upd nx i v) j := by
  unfold tf upd
  by_cases h : j = i * 3 + 2
  · rw [if_pos h, if_neg (by omega), if_neg (by omega), if_pos (by omega)]
  · rw [if_neg h]
    by_cases h2 : j % 3 = 0
    · rw [if_pos h2, if_pos h2]
    · rw [if_neg h2, if_neg h2]
      by_cases h3 : j % 3 = 1
      · rw [if_pos h3, if_pos h3]
      · rw [if_neg h3, if_neg h3, if_neg (by omega)]

def TS (w : World) (g gs n : Nat) (gens : Int) (wh gn nx : Nat → Int) (head m0 m1 m2 : Int) : Prop :=
  w.heap[g]? = some (.cells #[.slice (some ⟨gs, 0, none⟩) n n, .int .i64 gens, .int .i64 head, .int .i64 m0, .int .i64 m1, .int .i64 m2] 61 (0, 0)) ∧ Row w gs 63 (tf wh gn nx) (n * 3) ∧ g ≠ gs ∧ n ≤ 4096
abbrev ptr (g : Nat) : Value := .pointer (some ⟨g, 0, none⟩)
theorem TS.keep {S : Nat → Prop} {w w' : World} {g gs n : Nat} {gens : Int} {wh gn nx : Nat → Int} {head m0 m1 m2 : Int} (h : TS w g gs n gens wh gn nx head m0 m1 m2) (k : Keep S w w') (h1 : ¬ S g) (h2 : ¬ S gs) : TS w' g gs n gens wh gn nx head m0 m1 m2 :=
  ⟨k.blk h.1 h1, row_keep h.2.1 k h2, h.2.2⟩
theorem TS.below {w w' : World} {g gs n : Nat} {gens : Int} {wh gn nx : Nat → Int} {head m0 m1 m2 : Int} (h : TS w g gs n gens wh gn nx head m0 m1 m2) (k : Below w.heap.size w w') : TS w' g gs n gens wh gn nx head m0 m1 m2 :=
  h.keep (S := fun _ => False) (Keep.of_below k) (fun h => h) (fun h => h)

theorem left_nil (w : World) : Calls Try.prog 12 #[.pointer none] w fun e w' => e = .returned (.int .i64 0) ∧ w = w' := by
  go_enter Try.func12, Try.ntmps12
  go_wp2_with fail
  go_ret
  exact ⟨rfl, rfl⟩
theorem live_nil (w : World) : Calls Try.prog 13 #[.pointer none] w fun e w' => e = .returned (.int .i64 0) ∧ w = w' := by
  go_enter Try.func13, Try.ntmps13
  go_wp2_with fail
  go_ret
  exact ⟨rfl, rfl⟩
theorem look_nil (w : World) (h : Int) : Calls Try.prog 10 #[.pointer none, .int .i64 h] w fun e w' => e = .returned (.tuple #[.int .i64 0, .int .i64 1]) ∧ w = w' := by
  go_enter Try.func10, Try.ntmps10
  go_wp2_with fail
  go_ret2
  exact ⟨rfl, rfl⟩
theorem give_nil (w : World) (h : Int) : Calls Try.prog 18 #[.pointer none, .int .i64 h] w fun e w' => e = .returned (.int .i64 1) ∧ w = w' := by
  go_enter Try.func18, Try.ntmps18
  go_wp2_with fail
  refine (look_nil _ h).mono ?_
  rintro e w1 ⟨rfl, rfl⟩
  go_wp2_with fail
  go_ret
  exact ⟨rfl, rfl⟩
theorem take_nil (w : World) : Calls Try.prog 17 #[.pointer none] w fun e w' => e = .returned (.tuple #[.int .i64 0, .int .i64 0, .int .i64 1]) ∧ w = w' := by
  go_enter Try.func17, Try.ntmps17
  go_wp2_with fail
  go_ret3
  exact ⟨rfl, rfl⟩
theorem left_any (w : World) (g gs n : Nat) (gens : Int) (wh gn nx : Nat → Int) (head m0 m1 m2 : Int) (h : TS w g gs n gens wh gn nx head m0 m1 m2) : Calls Try.prog 12 #[ptr g] w fun e w' => e = .returned (.int .i64 m0) ∧ w = w' := by
  have c3 := blk_cell h.1 3
  clear h
  go_enter Try.func12, Try.ntmps12
  go_wp2_with fail
  go_ret
  exact ⟨rfl, rfl⟩
theorem live_any (w : World) (g gs n : Nat) (gens : Int) (wh gn nx : Nat → Int) (head m0 m1 m2 : Int) (h : TS w g gs n gens wh gn nx head m0 m1 m2) : Calls Try.prog 13 #[ptr g] w fun e w' => e = .returned (.int .i64 m1) ∧ w = w' := by
  have c4 := blk_cell h.1 4
  clear h
  go_enter Try.func13, Try.ntmps13
  go_wp2_with fail
  go_ret
  exact ⟨rfl, rfl⟩

theorem turn01 (w : World) (g gs n i : Nat) (gens : Int) (wh gn nx : Nat → Int) (head m0 m1 m2 : Int) (h : TS w g gs n gens wh gn nx head m0 m1 m2) (hi : i < n) (hw : wh i = 0) (h0 : 0 ≤ m0 ∧ m0 ≤ 5000) (h1 : 0 ≤ m1 ∧ m1 ≤ 5000) (h2 : 0 ≤ m2 ∧ m2 ≤ 5000) :
    Calls Try.prog 24 #[ptr g, .int .i64 i, .int .i64 1] w fun e w' => e = .returned (.tuple #[]) ∧ TS w' g gs n gens (upd wh i 1) gn nx head (m0 - 1) (m1 + 1) m2 ∧ Keep (fun k => k = g ∨ k = gs) w w' := by
  obtain ⟨hb, hr, hne, hn⟩ := h
  have hne' : gs ≠ g := fun h => hne h.symm
  have c0 := blk_cell hb 0
  have c3 := blk_cell hb 3
  have c4 := blk_cell hb 4
  have c5 := blk_cell hb 5
  have f3 := blk_frozen hb 3
  have f4 := blk_frozen hb 4
  have f5 := blk_frozen hb 5
  have x0 := row_cell (i := i * 3) hr (by omega)
  have y0 := row_frozen hr (i * 3)
  rw [tf_wh, hw] at x0
  have wa : IntKind.i64.wrap (m0 - 1) = m0 - 1 := IntWalk.i64_in _ (by omega)
  have wb : IntKind.i64.wrap (m1 + 1) = m1 + 1 := IntWalk.i64_in _ (by omega)
  clear hw
  go_enter Try.func24, Try.ntmps24
  go_wp2_with fail
  go_region
  go_wp2_with fail
  go_region
  go_wp2_with fail
  go_returns
  have q1 : (w.setCell ⟨g, 3, none⟩ (.int .i64 (m0 - 1))).heap[g]? = some (.cells #[.slice (some ⟨gs, 0, none⟩) n n, .int .i64 gens, .int .i64 head, .int .i64 (m0 - 1), .int .i64 m1, .int .i64 m2] 61 (0, 0)) := by simpa using blk_set hb 3 (.int .i64 (m0 - 1))
  have q2 : ((w.setCell ⟨g, 3, none⟩ (.int .i64 (m0 - 1))).setCell ⟨g, 4, none⟩ (.int .i64 (m1 + 1))).heap[g]? = some (.cells #[.slice (some ⟨gs, 0, none⟩) n n, .int .i64 gens, .int .i64 head, .int .i64 (m0 - 1), .int .i64 (m1 + 1), .int .i64 m2] 61 (0, 0)) := by simpa using blk_set q1 4 (.int .i64 (m1 + 1))
  refine ⟨rfl, ⟨?_, ?_, hne, hn⟩, ?_⟩
  · exact blk_far (p := ⟨gs, i * 3, none⟩) q2 hne (.int .i64 1)
  · exact row_ext (row_set (row_far (p := ⟨g, 4, none⟩) (row_far (p := ⟨g, 3, none⟩) hr hne' _) hne' _) (i * 3) (.int .i64 1)) (fun j _ => tf_set_wh wh gn nx i 1 j)
  · first
      | exact (((((Keep.refl (fun k => k = g ∨ k = gs) w).setCell (.inl (.inl rfl)) _).drew).setCell (.inl (.inl rfl)) _).drew).setCell (.inl (.inr rfl)) _
      | exact ((((Keep.refl (fun k => k = g ∨ k = gs) w).setCell (.inl (.inl rfl)) _).setCell (.inl (.inl rfl)) _).drewN _).setCell (.inl (.inr rfl)) _
      | exact ((((Keep.refl (fun k => k = g ∨ k = gs) w).setCell (.inl (.inl rfl)) _).setCell (.inl (.inl rfl)) _).setCell (.inl (.inr rfl)) _).drew.drew
      | exact (((((Keep.refl (fun k => k = g ∨ k = gs) w).setCell (.inl (.inl rfl)) _).setCell (.inl (.inl rfl)) _).drew).drew).setCell (.inl (.inr rfl)) _

theorem turn12 (w : World) (g gs n i : Nat) (gens : Int) (wh gn nx : Nat → Int) (head m0 m1 m2 : Int) (h : TS w g gs n gens wh gn nx head m0 m1 m2) (hi : i < n) (hw : wh i = 1) (h0 : 0 ≤ m0 ∧ m0 ≤ 5000) (h1 : 0 ≤ m1 ∧ m1 ≤ 5000) (h2 : 0 ≤ m2 ∧ m2 ≤ 5000) :
    Calls Try.prog 24 #[ptr g, .int .i64 i, .int .i64 2] w fun e w' => e = .returned (.tuple #[]) ∧ TS w' g gs n gens (upd wh i 2) gn nx head m0 (m1 - 1) (m2 + 1) ∧ Keep (fun k => k = g ∨ k = gs) w w' := by
  obtain ⟨hb, hr, hne, hn⟩ := h
  have hne' : gs ≠ g := fun h => hne h.symm
  have c0 := blk_cell hb 0
  have c3 := blk_cell hb 3
  have c4 := blk_cell hb 4
  have c5 := blk_cell hb 5
  have f3 := blk_frozen hb 3
  have f4 := blk_frozen hb 4
  have f5 := blk_frozen hb 5
  have x0 := row_cell (i := i * 3) hr (by omega)
  have y0 := row_frozen hr (i * 3)
  rw [tf_wh, hw] at x0
  have wa : IntKind.i64.wrap (m1 - 1) = m1 - 1 := IntWalk.i64_in _ (by omega)
  have wb : IntKind.i64.wrap (m2 + 1) = m2 + 1 := IntWalk.i64_in _ (by omega)
  clear hw
  go_enter Try.func24, Try.ntmps24
  go_wp2_with fail
  go_region
  go_wp2_with fail
  go_region
  go_wp2_with fail
  go_returns
  have q1 : (w.setCell ⟨g, 4, none⟩ (.int .i64 (m1 - 1))).heap[g]? = some (.cells #[.slice (some ⟨gs, 0, none⟩) n n, .int .i64 gens, .int .i64 head, .int .i64 m0, .int .i64 (m1 - 1), .int .i64 m2] 61 (0, 0)) := by simpa using blk_set hb 4 (.int .i64 (m1 - 1))
  have q2 : ((w.setCell ⟨g, 4, none⟩ (.int .i64 (m1 - 1))).setCell ⟨g, 5, none⟩ (.int .i64 (m2 + 1))).heap[g]? = some (.cells #[.slice (some ⟨gs, 0, none⟩) n n, .int .i64 gens, .int .i64 head, .int .i64 m0, .int .i64 (m1 - 1), .int .i64 (m2 + 1)] 61 (0, 0)) := by simpa using blk_set q1 5 (.int .i64 (m2 + 1))
  refine ⟨rfl, ⟨?_, ?_, hne, hn⟩, ?_⟩
  · exact blk_far (p := ⟨gs, i * 3, none⟩) q2 hne (.int .i64 2)
  · exact row_ext (row_set (row_far (p := ⟨g, 5, none⟩) (row_far (p := ⟨g, 4, none⟩) hr hne' _) hne' _) (i * 3) (.int .i64 2)) (fun j _ => tf_set_wh wh gn nx i 2 j)
  · first
      | exact (((((Keep.refl (fun k => k = g ∨ k = gs) w).setCell (.inl (.inl rfl)) _).drew).setCell (.inl (.inl rfl)) _).drew).setCell (.inl (.inr rfl)) _
      | exact ((((Keep.refl (fun k => k = g ∨ k = gs) w).setCell (.inl (.inl rfl)) _).setCell (.inl (.inl rfl)) _).drewN _).setCell (.inl (.inr rfl)) _
      | exact ((((Keep.refl (fun k => k = g ∨ k = gs) w).setCell (.inl (.inl rfl)) _).setCell (.inl (.inl rfl)) _).setCell (.inl (.inr rfl)) _).drew.drew
      | exact (((((Keep.refl (fun k => k = g ∨ k = gs) w).setCell (.inl (.inl rfl)) _).setCell (.inl (.inl rfl)) _).drew).drew).setCell (.inl (.inr rfl)) _

theorem turn10 (w : World) (g gs n i : Nat) (gens : Int) (wh gn nx : Nat → Int) (head m0 m1 m2 : Int) (h : TS w g gs n gens wh gn nx head m0 m1 m2) (hi : i < n) (hw : wh i = 1) (h0 : 0 ≤ m0 ∧ m0 ≤ 5000) (h1 : 0 ≤ m1 ∧ m1 ≤ 5000) (h2 : 0 ≤ m2 ∧ m2 ≤ 5000) :
    Calls Try.prog 24 #[ptr g, .int .i64 i, .int .i64 0] w fun e w' => e = .returned (.tuple #[]) ∧ TS w' g gs n gens (upd wh i 0) gn nx head (m0 + 1) (m1 - 1) m2 ∧ Keep (fun k => k = g ∨ k = gs) w w' := by
  obtain ⟨hb, hr, hne, hn⟩ := h
  have hne' : gs ≠ g := fun h => hne h.symm
  have c0 := blk_cell hb 0
  have c3 := blk_cell hb 3
  have c4 := blk_cell hb 4
  have c5 := blk_cell hb 5
  have f3 := blk_frozen hb 3
  have f4 := blk_frozen hb 4
  have f5 := blk_frozen hb 5
  have x0 := row_cell (i := i * 3) hr (by omega)
  have y0 := row_frozen hr (i * 3)
  rw [tf_wh, hw] at x0
  have wa : IntKind.i64.wrap (m1 - 1) = m1 - 1 := IntWalk.i64_in _ (by omega)
  have wb : IntKind.i64.wrap (m0 + 1) = m0 + 1 := IntWalk.i64_in _ (by omega)
  clear hw
  go_enter Try.func24, Try.ntmps24
  go_wp2_with fail
  go_region
  go_wp2_with fail
  go_region
  go_wp2_with fail
  go_returns
  have q1 : (w.setCell ⟨g, 4, none⟩ (.int .i64 (m1 - 1))).heap[g]? = some (.cells #[.slice (some ⟨gs, 0, none⟩) n n, .int .i64 gens, .int .i64 head, .int .i64 m0, .int .i64 (m1 - 1), .int .i64 m2] 61 (0, 0)) := by simpa using blk_set hb 4 (.int .i64 (m1 - 1))
  have q2 : ((w.setCell ⟨g, 4, none⟩ (.int .i64 (m1 - 1))).setCell ⟨g, 3, none⟩ (.int .i64 (m0 + 1))).heap[g]? = some (.cells #[.slice (some ⟨gs, 0, none⟩) n n, .int .i64 gens, .int .i64 head, .int .i64 (m0 + 1), .int .i64 (m1 - 1), .int .i64 m2] 61 (0, 0)) := by simpa using blk_set q1 3 (.int .i64 (m0 + 1))
  refine ⟨rfl, ⟨?_, ?_, hne, hn⟩, ?_⟩
  · exact blk_far (p := ⟨gs, i * 3, none⟩) q2 hne (.int .i64 0)
  · exact row_ext (row_set (row_far (p := ⟨g, 3, none⟩) (row_far (p := ⟨g, 4, none⟩) hr hne' _) hne' _) (i * 3) (.int .i64 0)) (fun j _ => tf_set_wh wh gn nx i 0 j)
  · first
      | exact (((((Keep.refl (fun k => k = g ∨ k = gs) w).setCell (.inl (.inl rfl)) _).drew).setCell (.inl (.inl rfl)) _).drew).setCell (.inl (.inr rfl)) _
      | exact ((((Keep.refl (fun k => k = g ∨ k = gs) w).setCell (.inl (.inl rfl)) _).setCell (.inl (.inl rfl)) _).drewN _).setCell (.inl (.inr rfl)) _
      | exact ((((Keep.refl (fun k => k = g ∨ k = gs) w).setCell (.inl (.inl rfl)) _).setCell (.inl (.inl rfl)) _).setCell (.inl (.inr rfl)) _).drew.drew
      | exact (((((Keep.refl (fun k => k = g ∨ k = gs) w).setCell (.inl (.inl rfl)) _).setCell (.inl (.inl rfl)) _).drew).drew).setCell (.inl (.inr rfl)) _
end Go.Proofs.Ytkbifnbblimnlaa
