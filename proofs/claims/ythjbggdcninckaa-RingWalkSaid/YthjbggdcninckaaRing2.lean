/- ring's Push and Drop as steps of the cells; First, Last, Next, Of, Len. -/
import Derived.Test.YthjbggdcninckaaRing
namespace Go.Proofs.Ythjbggdcninckaa
open Go.RowKit
set_option linter.unusedVariables false

theorem first_nil (w : World) (i : Int) : Calls Try.prog 17 #[.pointer none, .int .i64 i] w fun e w' => e = .returned (.int .i64 (-1)) ∧ w = w' := by
  go_enter Try.func17, Try.ntmps17
  go_wp2_with fail
  refine (list_nil w i).mono ?_
  rintro e w1 ⟨rfl, rfl⟩
  go_wp2_with fail
  go_ret
  exact ⟨rfl, rfl⟩
theorem first_out (w : World) (g gl gn m n : Nat) (F E M P X O : Nat → Int) (h : RS w g gl gn m n F E M P X O) {i : Int} (hi : i < 0 ∨ (m : Int) ≤ i) : Calls Try.prog 17 #[ptr g, .int .i64 i] w fun e w' => e = .returned (.int .i64 (-1)) ∧ w = w' := by
  have HL := Lib.hid (list_out w g gl gn m n F E M P X O h hi)
  clear h hi
  go_enter Try.func17, Try.ntmps17
  go_wp2_with fail
  refine HL.out.mono ?_
  rintro e w1 ⟨rfl, rfl⟩
  go_wp2_with fail
  go_ret
  exact ⟨rfl, rfl⟩
theorem first_in (w : World) (g gl gn m n : Nat) (F E M P X O : Nat → Int) (h : RS w g gl gn m n F E M P X O) {i : Nat} (hi : i < m) : Calls Try.prog 17 #[ptr g, .int .i64 i] w fun e w' => e = .returned (.int .i64 (F i)) ∧ w = w' := by
  have HL := Lib.hid (list_in w g gl gn m n F E M P X O h hi)
  have x0 := h.cellF hi
  clear h
  generalize F i = v at x0 ⊢
  go_enter Try.func17, Try.ntmps17
  go_wp2_with fail
  refine HL.out.mono ?_
  rintro e w1 ⟨rfl, rfl⟩
  go_wp2_with fail
  refine (end0 w gl (i * 3) _ x0).mono ?_
  rintro e w1 ⟨rfl, rfl⟩
  go_wp2_with fail
  go_ret
  exact ⟨rfl, rfl⟩
theorem last_nil (w : World) (i : Int) : Calls Try.prog 21 #[.pointer none, .int .i64 i] w fun e w' => e = .returned (.int .i64 (-1)) ∧ w = w' := by
  go_enter Try.func21, Try.ntmps21
  go_wp2_with fail
  refine (list_nil w i).mono ?_
  rintro e w1 ⟨rfl, rfl⟩
  go_wp2_with fail
  go_ret
  exact ⟨rfl, rfl⟩
theorem last_out (w : World) (g gl gn m n : Nat) (F E M P X O : Nat → Int) (h : RS w g gl gn m n F E M P X O) {i : Int} (hi : i < 0 ∨ (m : Int) ≤ i) : Calls Try.prog 21 #[ptr g, .int .i64 i] w fun e w' => e = .returned (.int .i64 (-1)) ∧ w = w' := by
  have HL := Lib.hid (list_out w g gl gn m n F E M P X O h hi)
  clear h hi
  go_enter Try.func21, Try.ntmps21
  go_wp2_with fail
  refine HL.out.mono ?_
  rintro e w1 ⟨rfl, rfl⟩
  go_wp2_with fail
  go_ret
  exact ⟨rfl, rfl⟩
theorem last_in (w : World) (g gl gn m n : Nat) (F E M P X O : Nat → Int) (h : RS w g gl gn m n F E M P X O) {i : Nat} (hi : i < m) : Calls Try.prog 21 #[ptr g, .int .i64 i] w fun e w' => e = .returned (.int .i64 (E i)) ∧ w = w' := by
  have HL := Lib.hid (list_in w g gl gn m n F E M P X O h hi)
  have x0 := h.cellE hi
  clear h
  generalize E i = v at x0 ⊢
  go_enter Try.func21, Try.ntmps21
  go_wp2_with fail
  refine HL.out.mono ?_
  rintro e w1 ⟨rfl, rfl⟩
  go_wp2_with fail
  refine (end1 w gl (i * 3) _ x0).mono ?_
  rintro e w1 ⟨rfl, rfl⟩
  go_wp2_with fail
  go_ret
  exact ⟨rfl, rfl⟩
theorem len_nil (w : World) (i : Int) : Calls Try.prog 11 #[.pointer none, .int .i64 i] w fun e w' => e = .returned (.int .i64 0) ∧ w = w' := by
  go_enter Try.func11, Try.ntmps11
  go_wp2_with fail
  refine (list_nil w i).mono ?_
  rintro e w1 ⟨rfl, rfl⟩
  go_wp2_with fail
  go_ret
  exact ⟨rfl, rfl⟩
theorem len_out (w : World) (g gl gn m n : Nat) (F E M P X O : Nat → Int) (h : RS w g gl gn m n F E M P X O) {i : Int} (hi : i < 0 ∨ (m : Int) ≤ i) : Calls Try.prog 11 #[ptr g, .int .i64 i] w fun e w' => e = .returned (.int .i64 0) ∧ w = w' := by
  have HL := Lib.hid (list_out w g gl gn m n F E M P X O h hi)
  clear h hi
  go_enter Try.func11, Try.ntmps11
  go_wp2_with fail
  refine HL.out.mono ?_
  rintro e w1 ⟨rfl, rfl⟩
  go_wp2_with fail
  go_ret
  exact ⟨rfl, rfl⟩
theorem len_in (w : World) (g gl gn m n : Nat) (F E M P X O : Nat → Int) (h : RS w g gl gn m n F E M P X O) {i : Nat} (hi : i < m) : Calls Try.prog 11 #[ptr g, .int .i64 i] w fun e w' => e = .returned (.int .i64 (M i)) ∧ w = w' := by
  have HL := Lib.hid (list_in w g gl gn m n F E M P X O h hi)
  have x0 := h.cellM hi
  clear h
  generalize M i = v at x0 ⊢
  go_enter Try.func11, Try.ntmps11
  go_wp2_with fail
  refine HL.out.mono ?_
  rintro e w1 ⟨rfl, rfl⟩
  go_wp2_with fail
  go_ret
  exact ⟨rfl, rfl⟩
theorem of_nil (w : World) (i : Int) : Calls Try.prog 12 #[.pointer none, .int .i64 i] w fun e w' => e = .returned (.int .i64 (-1)) ∧ w = w' := by
  go_enter Try.func12, Try.ntmps12
  go_wp2_with fail
  refine (node_nil w i).mono ?_
  rintro e w1 ⟨rfl, rfl⟩
  go_wp2_with fail
  go_ret
  exact ⟨rfl, rfl⟩
theorem of_out (w : World) (g gl gn m n : Nat) (F E M P X O : Nat → Int) (h : RS w g gl gn m n F E M P X O) {i : Int} (hi : i < 0 ∨ (n : Int) ≤ i) : Calls Try.prog 12 #[ptr g, .int .i64 i] w fun e w' => e = .returned (.int .i64 (-1)) ∧ w = w' := by
  have HL := Lib.hid (node_out w g gl gn m n F E M P X O h hi)
  clear h hi
  go_enter Try.func12, Try.ntmps12
  go_wp2_with fail
  refine HL.out.mono ?_
  rintro e w1 ⟨rfl, rfl⟩
  go_wp2_with fail
  go_ret
  exact ⟨rfl, rfl⟩
theorem of_in (w : World) (g gl gn m n : Nat) (F E M P X O : Nat → Int) (h : RS w g gl gn m n F E M P X O) {i : Nat} (hi : i < n) : Calls Try.prog 12 #[ptr g, .int .i64 i] w fun e w' => e = .returned (.int .i64 (O i)) ∧ w = w' := by
  have HL := Lib.hid (node_in w g gl gn m n F E M P X O h hi)
  have x0 := h.cellO hi
  clear h
  generalize O i = v at x0 ⊢
  go_enter Try.func12, Try.ntmps12
  go_wp2_with fail
  refine HL.out.mono ?_
  rintro e w1 ⟨rfl, rfl⟩
  go_wp2_with fail
  go_ret
  exact ⟨rfl, rfl⟩
theorem next_nil (w : World) (i : Int) : Calls Try.prog 18 #[.pointer none, .int .i64 i] w fun e w' => e = .returned (.int .i64 (-1)) ∧ w = w' := by
  go_enter Try.func18, Try.ntmps18
  go_wp2_with fail
  refine (node_nil w i).mono ?_
  rintro e w1 ⟨rfl, rfl⟩
  go_wp2_with fail
  go_ret
  exact ⟨rfl, rfl⟩
theorem next_out (w : World) (g gl gn m n : Nat) (F E M P X O : Nat → Int) (h : RS w g gl gn m n F E M P X O) {i : Int} (hi : i < 0 ∨ (n : Int) ≤ i) : Calls Try.prog 18 #[ptr g, .int .i64 i] w fun e w' => e = .returned (.int .i64 (-1)) ∧ w = w' := by
  have HL := Lib.hid (node_out w g gl gn m n F E M P X O h hi)
  clear h hi
  go_enter Try.func18, Try.ntmps18
  go_wp2_with fail
  refine HL.out.mono ?_
  rintro e w1 ⟨rfl, rfl⟩
  go_wp2_with fail
  go_ret
  exact ⟨rfl, rfl⟩
theorem next_in (w : World) (g gl gn m n : Nat) (F E M P X O : Nat → Int) (h : RS w g gl gn m n F E M P X O) {i : Nat} (hi : i < n) : Calls Try.prog 18 #[ptr g, .int .i64 i] w fun e w' => e = .returned (.int .i64 (X i)) ∧ w = w' := by
  have HL := Lib.hid (node_in w g gl gn m n F E M P X O h hi)
  have x0 := h.cellX hi
  clear h
  generalize X i = v at x0 ⊢
  go_enter Try.func18, Try.ntmps18
  go_wp2_with fail
  refine HL.out.mono ?_
  rintro e w1 ⟨rfl, rfl⟩
  go_wp2_with fail
  go_ret
  exact ⟨rfl, rfl⟩
theorem push_nil (w : World) (i x : Int) : Calls Try.prog 13 #[.pointer none, .int .i64 i, .int .i64 x] w fun e w' => e = .returned (.int .i64 1) ∧ w = w' := by
  go_enter Try.func13, Try.ntmps13
  go_wp2_with fail
  refine (list_nil w i).mono ?_
  rintro e w1 ⟨rfl, rfl⟩
  go_wp2_with fail
  refine (node_nil w x).mono ?_
  rintro e w1 ⟨rfl, rfl⟩
  go_wp2_with fail
  go_ret
  exact ⟨rfl, rfl⟩
theorem drop_nil (w : World) (x : Int) : Calls Try.prog 20 #[.pointer none, .int .i64 x] w fun e w' => e = .returned (.int .i64 1) ∧ w = w' := by
  go_enter Try.func20, Try.ntmps20
  go_wp2_with fail
  refine (node_nil w x).mono ?_
  rintro e w1 ⟨rfl, rfl⟩
  go_wp2_with fail
  go_ret
  exact ⟨rfl, rfl⟩
theorem push_arg (w : World) (g gl gn m n : Nat) (F E M P X O : Nat → Int) (h : RS w g gl gn m n F E M P X O) {i x : Int} (hi : (i < 0 ∨ (m : Int) ≤ i) ∨ (x < 0 ∨ (n : Int) ≤ x)) : Calls Try.prog 13 #[ptr g, .int .i64 i, .int .i64 x] w fun e w' => e = .returned (.int .i64 1) ∧ w = w' := by
  by_cases g1 : i < 0 ∨ (m : Int) ≤ i
  · have HL := Lib.hid (list_out w g gl gn m n F E M P X O h g1)
    by_cases g2 : x < 0 ∨ (n : Int) ≤ x
    · have HN := Lib.hid (node_out w g gl gn m n F E M P X O h g2)
      clear h hi g1 g2
      go_enter Try.func13, Try.ntmps13
      go_wp2_with fail
      refine HL.out.mono ?_
      rintro e w1 ⟨rfl, rfl⟩
      go_wp2_with fail
      refine HN.out.mono ?_
      rintro e w1 ⟨rfl, rfl⟩
      go_wp2_with fail
      go_ret
      exact ⟨rfl, rfl⟩
    · obtain ⟨y, rfl⟩ : ∃ y : Nat, x = y := ⟨x.toNat, by omega⟩
      have HN := Lib.hid (node_in w g gl gn m n F E M P X O h (i := y) (by omega))
      clear h hi g1 g2
      go_enter Try.func13, Try.ntmps13
      go_wp2_with fail
      refine HL.out.mono ?_
      rintro e w1 ⟨rfl, rfl⟩
      go_wp2_with fail
      refine HN.out.mono ?_
      rintro e w1 ⟨rfl, rfl⟩
      go_wp2_with fail
      go_ret
      exact ⟨rfl, rfl⟩
  · obtain ⟨y, rfl⟩ : ∃ y : Nat, i = y := ⟨i.toNat, by omega⟩
    have HL := Lib.hid (list_in w g gl gn m n F E M P X O h (i := y) (by omega))
    have HN := Lib.hid (node_out w g gl gn m n F E M P X O h (hi.resolve_left g1))
    clear h hi g1
    go_enter Try.func13, Try.ntmps13
    go_wp2_with fail
    refine HL.out.mono ?_
    rintro e w1 ⟨rfl, rfl⟩
    go_wp2_with fail
    refine HN.out.mono ?_
    rintro e w1 ⟨rfl, rfl⟩
    go_wp2_with fail
    go_ret
    exact ⟨rfl, rfl⟩
theorem push_there (w : World) (g gl gn m n : Nat) (F E M P X O : Nat → Int) (h : RS w g gl gn m n F E M P X O) {i x : Nat} (hi : i < m) (hx : x < n) (hO : O x ≠ -1) : Calls Try.prog 13 #[ptr g, .int .i64 i, .int .i64 x] w fun e w' => e = .returned (.int .i64 10) ∧ w = w' := by
  have HL := Lib.hid (list_in w g gl gn m n F E M P X O h hi)
  have HN := Lib.hid (node_in w g gl gn m n F E M P X O h hx)
  have x2 := h.cellO hx
  clear h
  generalize O x = ox at x2 hO
  have hne : (ox != -1) = true := by simp [hO]
  clear hO
  go_enter Try.func13, Try.ntmps13
  go_wp2_with fail
  refine HL.out.mono ?_
  rintro e w1 ⟨rfl, rfl⟩
  go_wp2_with fail
  refine HN.out.mono ?_
  rintro e w1 ⟨rfl, rfl⟩
  go_wp2_with fail
  go_ret
  exact ⟨rfl, rfl⟩
theorem drop_arg (w : World) (g gl gn m n : Nat) (F E M P X O : Nat → Int) (h : RS w g gl gn m n F E M P X O) {x : Int} (hx : x < 0 ∨ (n : Int) ≤ x) : Calls Try.prog 20 #[ptr g, .int .i64 x] w fun e w' => e = .returned (.int .i64 1) ∧ w = w' := by
  have HN := Lib.hid (node_out w g gl gn m n F E M P X O h hx)
  clear h hx
  go_enter Try.func20, Try.ntmps20
  go_wp2_with fail
  refine HN.out.mono ?_
  rintro e w1 ⟨rfl, rfl⟩
  go_wp2_with fail
  go_ret
  exact ⟨rfl, rfl⟩
theorem drop_none (w : World) (g gl gn m n : Nat) (F E M P X O : Nat → Int) (h : RS w g gl gn m n F E M P X O) {x : Nat} (hx : x < n) (hO : O x = -1) : Calls Try.prog 20 #[ptr g, .int .i64 x] w fun e w' => e = .returned (.int .i64 9) ∧ w = w' := by
  have HN := Lib.hid (node_in w g gl gn m n F E M P X O h hx)
  have x2 := h.cellO hx
  rw [hO] at x2
  clear h hO
  go_enter Try.func20, Try.ntmps20
  go_wp2_with fail
  refine HN.out.mono ?_
  rintro e w1 ⟨rfl, rfl⟩
  go_wp2_with fail
  go_ret
  exact ⟨rfl, rfl⟩
set_option maxHeartbeats 1000000 in
theorem push_first (w : World) (g gl gn m n : Nat) (F E M P X O : Nat → Int) (h : RS w g gl gn m n F E M P X O) {i x : Nat} (hi : i < m) (hx : x < n) (hO : O x = -1) (hM : 0 ≤ M i ∧ M i ≤ 5000) (hF : F i = -1) :
    Calls Try.prog 13 #[ptr g, .int .i64 i, .int .i64 x] w fun e w' => e = .returned (.int .i64 0) ∧ RS w' g gl gn m n (upd F i x) (upd E i x) (upd M i (M i + 1)) (upd P x (-1)) (upd X x (F i)) (upd O x i) ∧ Keep (fun k => k = gl ∨ k = gn) w w' := by
  have HL := Lib.hid (list_in w g gl gn m n F E M P X O h hi)
  have HN := Lib.hid (node_in w g gl gn m n F E M P X O h hx)
  have x2 := h.cellO hx
  have x0 := h.cellP hx
  have x1 := h.cellX hx
  have z0 := h.cellF hi
  have f0 := h.frozN (x * 3)
  have f1 := h.frozN (x * 3 + 1)
  have f2 := h.frozN (x * 3 + 2)
  have hgl : gl ≠ gn := h.2.2.2.2.2.1
  have hm := h.2.2.2.2.2.2
  rw [hO] at x2
  rw [hF] at z0
  rw [hF]
  have R1 : Hid (RS (((w.setCell ⟨gn, x * 3 + 2, none⟩ (.int .i64 i)).setCell ⟨gn, x * 3, none⟩ (.int .i64 (-1))).setCell ⟨gn, x * 3 + 1, none⟩ (.int .i64 (-1))) g gl gn m n F E M (upd P x (-1)) (upd X x (-1)) (upd O x i)) := Lib.hid (((h.setO x i).setP x (-1)).setX x (-1))
  have K1 : Hid (Keep (fun k => k = gl ∨ k = gn) w (((w.setCell ⟨gn, x * 3 + 2, none⟩ (.int .i64 i)).setCell ⟨gn, x * 3, none⟩ (.int .i64 (-1))).setCell ⟨gn, x * 3 + 1, none⟩ (.int .i64 (-1)))) := Lib.hid ((((Keep.refl _ w).setCell (.inl (.inr rfl)) _).setCell (.inl (.inr rfl)) _).setCell (.inl (.inr rfl)) _)
  clear h hO hF
  go_enter Try.func13, Try.ntmps13
  go_wp2_with fail
  refine HL.out.mono ?_
  rintro e w1 ⟨rfl, rfl⟩
  go_wp2_with fail
  refine HN.out.mono ?_
  rintro e w1 ⟨rfl, rfl⟩
  go_wp2_with fail
  refine (end0 w gl (i * 3) _ z0).mono ?_
  rintro e w1 ⟨rfl, rfl⟩
  go_wp2_with fail
  refine (tie_listE _ g gl gn m n _ _ _ _ _ _ R1.out hi x).mono ?_
  rintro e w2 ⟨rfl, r2, k2⟩
  have u0 := r2.cellF hi
  have u2 := r2.cellM hi
  have g0 := r2.frozL (i * 3)
  have g2 := r2.frozL (i * 3 + 2)
  have R3 := Lib.hid ((r2.setF i x).setM i (M i + 1))
  have K3 := Lib.hid ((((K1.out.then k2 (fun _ h => .inl h))).setCell (.inl (.inl rfl)) (.int .i64 x) (p := ⟨gl, i * 3, none⟩)).setCell (.inl (.inl rfl)) (.int .i64 (M i + 1)) (p := ⟨gl, i * 3 + 2, none⟩))
  clear r2 k2 x0 x1 x2 z0 f0 f1 f2
  go_wp2_with fail
  go_ret
  exact ⟨rfl, R3.out, K3.out⟩
set_option maxHeartbeats 1000000 in
theorem push_more (w : World) (g gl gn m n : Nat) (F E M P X O : Nat → Int) (h : RS w g gl gn m n F E M P X O) {i x : Nat} (hi : i < m) (hx : x < n) (hO : O x = -1) (hM : 0 ≤ M i ∧ M i ≤ 5000) {y : Nat} (hF : F i = (y : Int)) (hy : y < n) :
    Calls Try.prog 13 #[ptr g, .int .i64 i, .int .i64 x] w fun e w' => e = .returned (.int .i64 0) ∧ RS w' g gl gn m n (upd F i x) E (upd M i (M i + 1)) (upd (upd P x (-1)) y x) (upd X x (F i)) (upd O x i) ∧ Keep (fun k => k = gl ∨ k = gn) w w' := by
  have HL := Lib.hid (list_in w g gl gn m n F E M P X O h hi)
  have HN := Lib.hid (node_in w g gl gn m n F E M P X O h hx)
  have x2 := h.cellO hx
  have x0 := h.cellP hx
  have x1 := h.cellX hx
  have z0 := h.cellF hi
  have f0 := h.frozN (x * 3)
  have f1 := h.frozN (x * 3 + 1)
  have f2 := h.frozN (x * 3 + 2)
  have hgl : gl ≠ gn := h.2.2.2.2.2.1
  have hm := h.2.2.2.2.2.2
  rw [hO] at x2
  rw [hF] at z0
  rw [hF]
  have R1 : Hid (RS (((w.setCell ⟨gn, x * 3 + 2, none⟩ (.int .i64 i)).setCell ⟨gn, x * 3, none⟩ (.int .i64 (-1))).setCell ⟨gn, x * 3 + 1, none⟩ (.int .i64 (y : Int))) g gl gn m n F E M (upd P x (-1)) (upd X x (y : Int)) (upd O x i)) := Lib.hid (((h.setO x i).setP x (-1)).setX x (y : Int))
  have K1 : Hid (Keep (fun k => k = gl ∨ k = gn) w (((w.setCell ⟨gn, x * 3 + 2, none⟩ (.int .i64 i)).setCell ⟨gn, x * 3, none⟩ (.int .i64 (-1))).setCell ⟨gn, x * 3 + 1, none⟩ (.int .i64 (y : Int)))) := Lib.hid ((((Keep.refl _ w).setCell (.inl (.inr rfl)) _).setCell (.inl (.inr rfl)) _).setCell (.inl (.inr rfl)) _)
  clear h hO hF
  go_enter Try.func13, Try.ntmps13
  go_wp2_with fail
  refine HL.out.mono ?_
  rintro e w1 ⟨rfl, rfl⟩
  go_wp2_with fail
  refine HN.out.mono ?_
  rintro e w1 ⟨rfl, rfl⟩
  go_wp2_with fail
  refine (end0 w gl (i * 3) _ z0).mono ?_
  rintro e w1 ⟨rfl, rfl⟩
  go_wp2_with fail
  refine (tie_nodeP _ g gl gn m n _ _ _ _ _ _ R1.out hy (ptrAt gl (i * 3)) x).mono ?_
  rintro e w2 ⟨rfl, r2, k2⟩
  have u0 := r2.cellF hi
  have u2 := r2.cellM hi
  have g0 := r2.frozL (i * 3)
  have g2 := r2.frozL (i * 3 + 2)
  have R3 := Lib.hid ((r2.setF i x).setM i (M i + 1))
  have K3 := Lib.hid ((((K1.out.then k2 (fun _ h => .inl h))).setCell (.inl (.inl rfl)) (.int .i64 x) (p := ⟨gl, i * 3, none⟩)).setCell (.inl (.inl rfl)) (.int .i64 (M i + 1)) (p := ⟨gl, i * 3 + 2, none⟩))
  clear r2 k2 x0 x1 x2 z0 f0 f1 f2
  go_wp2_with fail
  go_ret
  exact ⟨rfl, R3.out, K3.out⟩
set_option maxHeartbeats 1000000 in
theorem drop_first_last (w : World) (g gl gn m n : Nat) (F E M P X O : Nat → Int) (h : RS w g gl gn m n F E M P X O) {i x : Nat} (hi : i < m) (hx : x < n) (hO : O x = (i : Int)) (hM : 0 ≤ M i ∧ M i ≤ 5000) (hP : P x = (-1)) (hX : X x = (-1)) :
    Calls Try.prog 20 #[ptr g, .int .i64 x] w fun e w' => e = .returned (.int .i64 0) ∧ RS w' g gl gn m n (upd F i (-1)) (upd E i (-1)) (upd M i (M i - 1)) (upd P x (-1)) (upd X x (-1)) (upd O x (-1)) ∧ Keep (fun k => k = gl ∨ k = gn) w w' := by
  have HL := Lib.hid (list_in w g gl gn m n F E M P X O h hi)
  have HN := Lib.hid (node_in w g gl gn m n F E M P X O h hx)
  have x2 := h.cellO hx
  have x0 := h.cellP hx
  have x1 := h.cellX hx
  have hgl : gl ≠ gn := h.2.2.2.2.2.1
  have hm := h.2.2.2.2.2.2
  have HP := Lib.hid hP
  have HX := Lib.hid hX
  rw [hO] at x2
  rw [hP] at x0
  rw [hX] at x1
  have hne : ((i : Int) == -1) = false := beq_eq_false_iff_ne.2 (by omega)
  have R0 : Hid (RS w.drew g gl gn m n F E M P X O) := Lib.hid (h.below (below_drew (Below.refl _ _)))
  have d0 : w.drew.cell? ⟨gn, x * 3, none⟩ = some (.int .i64 (-1)) := x0
  have d1 : w.drew.cell? ⟨gn, x * 3 + 1, none⟩ = some (.int .i64 (-1)) := x1
  clear h hO hP hX
  go_enter Try.func20, Try.ntmps20
  go_wp2_with fail
  refine HN.out.mono ?_
  rintro e w1 ⟨rfl, rfl⟩
  go_wp2_with fail
  refine HL.out.mono ?_
  rintro e w1 ⟨rfl, rfl⟩
  go_wp2_with fail
  go_region_held3 (fun W => W.cell? ⟨gn, x * 3, none⟩ = some (.int .i64 (-1)) ∧ W.cell? ⟨gn, x * 3 + 1, none⟩ = some (.int .i64 (-1)))
    (first
      | exact ⟨d0, d1⟩
      | exact ⟨s0, s1⟩)
    (first
      | (go_at_call 25; refine (tie_listF _ g gl gn m n F E M P X O R0.out hi (-1)).mono ?_; rintro e w2 ⟨rfl, r2, k2⟩; have s0 : w2.cell? ⟨gn, x * 3, none⟩ = some (.int .i64 (-1)) := (by have := r2.cellP hx; rwa [HP.out] at this); have s1 : w2.cell? ⟨gn, x * 3 + 1, none⟩ = some (.int .i64 (-1)) := (by have := r2.cellX hx; rwa [HX.out] at this)))
  all_goals
    rename_i hH
    have R2 : Hid (RS w2.drew g gl gn m n (upd F i (-1)) E M P X O) := Lib.hid (r2.below (below_drew (Below.refl _ _)))
    have K2 : Hid (Keep (fun k => k = gl ∨ k = gn) w w2) := Lib.hid (((Keep.refl (fun k => k = gl ∨ k = gn) w).drew).then k2 (fun _ h => .inl h))
    have d2 : w2.drew.cell? ⟨gn, x * 3, none⟩ = some (.int .i64 (-1)) := s0
    have d3 : w2.drew.cell? ⟨gn, x * 3 + 1, none⟩ = some (.int .i64 (-1)) := s1
    clear r2 k2 x0 x1 x2 d0 d1 hH
    go_wp2_with fail
    go_region_held3 (fun W => W.cell? ⟨gn, x * 3, none⟩ = some (.int .i64 (-1)) ∧ W.cell? ⟨gn, x * 3 + 1, none⟩ = some (.int .i64 (-1)))
      (first
        | exact ⟨d2, d3⟩
        | exact ⟨s2, s3⟩)
      (first
        | (go_at_call 25; refine (tie_listE _ g gl gn m n _ _ _ _ _ _ R2.out hi (-1)).mono ?_; rintro e w3 ⟨rfl, r3, k3⟩; have s2 : w3.cell? ⟨gn, x * 3, none⟩ = some (.int .i64 (-1)) := (by have := r3.cellP hx; rwa [HP.out] at this); have s3 : w3.cell? ⟨gn, x * 3 + 1, none⟩ = some (.int .i64 (-1)) := (by have := r3.cellX hx; rwa [HX.out] at this)))
    all_goals
      rename_i hH
      have u2 := r3.cellM hi
      have g2 := r3.frozL (i * 3 + 2)
      have y2 := r3.cellO hx
      have f0 := r3.frozN (x * 3)
      have f1 := r3.frozN (x * 3 + 1)
      have f2 := r3.frozN (x * 3 + 2)
      have R4 := Lib.hid ((((r3.setM i (M i - 1)).setO x (-1)).setP x (-1)).setX x (-1))
      have K4 := Lib.hid ((((((K2.out.drew.then k3 (fun _ h => .inl h)).setCell (.inl (.inl rfl)) (.int .i64 (M i - 1)) (p := ⟨gl, i * 3 + 2, none⟩)).setCell (.inl (.inr rfl)) (.int .i64 (-1)) (p := ⟨gn, x * 3 + 2, none⟩)).setCell (.inl (.inr rfl)) (.int .i64 (-1)) (p := ⟨gn, x * 3, none⟩)).setCell (.inl (.inr rfl)) (.int .i64 (-1)) (p := ⟨gn, x * 3 + 1, none⟩)))
      clear r3 k3 hH
      go_wp2_with fail
      go_ret
      exact ⟨rfl, R4.out, K4.out⟩
set_option maxHeartbeats 1000000 in
theorem drop_first_more (w : World) (g gl gn m n : Nat) (F E M P X O : Nat → Int) (h : RS w g gl gn m n F E M P X O) {i x : Nat} (hi : i < m) (hx : x < n) (hO : O x = (i : Int)) (hM : 0 ≤ M i ∧ M i ≤ 5000) {b : Nat} (hb : b < n) (hbx : b ≠ x) (hP : P x = (-1)) (hX : X x = (b : Int)) :
    Calls Try.prog 20 #[ptr g, .int .i64 x] w fun e w' => e = .returned (.int .i64 0) ∧ RS w' g gl gn m n (upd F i (b : Int)) E (upd M i (M i - 1)) (upd (upd P b (-1)) x (-1)) (upd X x (-1)) (upd O x (-1)) ∧ Keep (fun k => k = gl ∨ k = gn) w w' := by
  have HL := Lib.hid (list_in w g gl gn m n F E M P X O h hi)
  have HN := Lib.hid (node_in w g gl gn m n F E M P X O h hx)
  have x2 := h.cellO hx
  have x0 := h.cellP hx
  have x1 := h.cellX hx
  have hgl : gl ≠ gn := h.2.2.2.2.2.1
  have hm := h.2.2.2.2.2.2
  have HP := Lib.hid hP
  have HX := Lib.hid hX
  rw [hO] at x2
  rw [hP] at x0
  rw [hX] at x1
  have hne : ((i : Int) == -1) = false := beq_eq_false_iff_ne.2 (by omega)
  have R0 : Hid (RS w.drew g gl gn m n F E M P X O) := Lib.hid (h.below (below_drew (Below.refl _ _)))
  have d0 : w.drew.cell? ⟨gn, x * 3, none⟩ = some (.int .i64 (-1)) := x0
  have d1 : w.drew.cell? ⟨gn, x * 3 + 1, none⟩ = some (.int .i64 (b : Int)) := x1
  clear h hO hP hX
  go_enter Try.func20, Try.ntmps20
  go_wp2_with fail
  refine HN.out.mono ?_
  rintro e w1 ⟨rfl, rfl⟩
  go_wp2_with fail
  refine HL.out.mono ?_
  rintro e w1 ⟨rfl, rfl⟩
  go_wp2_with fail
  go_region_held3 (fun W => W.cell? ⟨gn, x * 3, none⟩ = some (.int .i64 (-1)) ∧ W.cell? ⟨gn, x * 3 + 1, none⟩ = some (.int .i64 (b : Int)))
    (first
      | exact ⟨d0, d1⟩
      | exact ⟨s0, s1⟩)
    (first
      | (go_at_call 25; refine (tie_listF _ g gl gn m n F E M P X O R0.out hi (b : Int)).mono ?_; rintro e w2 ⟨rfl, r2, k2⟩; have s0 : w2.cell? ⟨gn, x * 3, none⟩ = some (.int .i64 (-1)) := (by have := r2.cellP hx; rwa [HP.out] at this); have s1 : w2.cell? ⟨gn, x * 3 + 1, none⟩ = some (.int .i64 (b : Int)) := (by have := r2.cellX hx; rwa [HX.out] at this)))
  all_goals
    rename_i hH
    have R2 : Hid (RS w2.drew g gl gn m n (upd F i (b : Int)) E M P X O) := Lib.hid (r2.below (below_drew (Below.refl _ _)))
    have K2 : Hid (Keep (fun k => k = gl ∨ k = gn) w w2) := Lib.hid (((Keep.refl (fun k => k = gl ∨ k = gn) w).drew).then k2 (fun _ h => .inl h))
    have d2 : w2.drew.cell? ⟨gn, x * 3, none⟩ = some (.int .i64 (-1)) := s0
    have d3 : w2.drew.cell? ⟨gn, x * 3 + 1, none⟩ = some (.int .i64 (b : Int)) := s1
    clear r2 k2 x0 x1 x2 d0 d1 hH
    go_wp2_with fail
    go_region_held3 (fun W => W.cell? ⟨gn, x * 3, none⟩ = some (.int .i64 (-1)) ∧ W.cell? ⟨gn, x * 3 + 1, none⟩ = some (.int .i64 (b : Int)))
      (first
        | exact ⟨d2, d3⟩
        | exact ⟨s2, s3⟩)
      (first
        | (go_at_call 25; refine (tie_nodeP _ g gl gn m n _ _ _ _ _ _ R2.out hb (ptrAt gl (i * 3)) (-1)).mono ?_; rintro e w3 ⟨rfl, r3, k3⟩; have s2 : w3.cell? ⟨gn, x * 3, none⟩ = some (.int .i64 (-1)) := (by have := r3.cellP hx; rwa [show upd P b (-1) x = P x from if_neg (fun e => hbx e.symm), HP.out] at this); have s3 : w3.cell? ⟨gn, x * 3 + 1, none⟩ = some (.int .i64 (b : Int)) := (by have := r3.cellX hx; rwa [HX.out] at this)))
    all_goals
      rename_i hH
      have u2 := r3.cellM hi
      have g2 := r3.frozL (i * 3 + 2)
      have y2 := r3.cellO hx
      have f0 := r3.frozN (x * 3)
      have f1 := r3.frozN (x * 3 + 1)
      have f2 := r3.frozN (x * 3 + 2)
      have R4 := Lib.hid ((((r3.setM i (M i - 1)).setO x (-1)).setP x (-1)).setX x (-1))
      have K4 := Lib.hid ((((((K2.out.drew.then k3 (fun _ h => .inl h)).setCell (.inl (.inl rfl)) (.int .i64 (M i - 1)) (p := ⟨gl, i * 3 + 2, none⟩)).setCell (.inl (.inr rfl)) (.int .i64 (-1)) (p := ⟨gn, x * 3 + 2, none⟩)).setCell (.inl (.inr rfl)) (.int .i64 (-1)) (p := ⟨gn, x * 3, none⟩)).setCell (.inl (.inr rfl)) (.int .i64 (-1)) (p := ⟨gn, x * 3 + 1, none⟩)))
      clear r3 k3 hH
      go_wp2_with fail
      go_ret
      exact ⟨rfl, R4.out, K4.out⟩
set_option maxHeartbeats 1000000 in
theorem drop_mid_last (w : World) (g gl gn m n : Nat) (F E M P X O : Nat → Int) (h : RS w g gl gn m n F E M P X O) {i x : Nat} (hi : i < m) (hx : x < n) (hO : O x = (i : Int)) (hM : 0 ≤ M i ∧ M i ≤ 5000) {a : Nat} (ha : a < n) (hax : a ≠ x) (hP : P x = (a : Int)) (hX : X x = (-1)) :
    Calls Try.prog 20 #[ptr g, .int .i64 x] w fun e w' => e = .returned (.int .i64 0) ∧ RS w' g gl gn m n F (upd E i (a : Int)) (upd M i (M i - 1)) (upd P x (-1)) (upd (upd X a (-1)) x (-1)) (upd O x (-1)) ∧ Keep (fun k => k = gl ∨ k = gn) w w' := by
  have HL := Lib.hid (list_in w g gl gn m n F E M P X O h hi)
  have HN := Lib.hid (node_in w g gl gn m n F E M P X O h hx)
  have x2 := h.cellO hx
  have x0 := h.cellP hx
  have x1 := h.cellX hx
  have hgl : gl ≠ gn := h.2.2.2.2.2.1
  have hm := h.2.2.2.2.2.2
  have HP := Lib.hid hP
  have HX := Lib.hid hX
  rw [hO] at x2
  rw [hP] at x0
  rw [hX] at x1
  have hne : ((i : Int) == -1) = false := beq_eq_false_iff_ne.2 (by omega)
  have R0 : Hid (RS w.drew g gl gn m n F E M P X O) := Lib.hid (h.below (below_drew (Below.refl _ _)))
  have d0 : w.drew.cell? ⟨gn, x * 3, none⟩ = some (.int .i64 (a : Int)) := x0
  have d1 : w.drew.cell? ⟨gn, x * 3 + 1, none⟩ = some (.int .i64 (-1)) := x1
  clear h hO hP hX
  go_enter Try.func20, Try.ntmps20
  go_wp2_with fail
  refine HN.out.mono ?_
  rintro e w1 ⟨rfl, rfl⟩
  go_wp2_with fail
  refine HL.out.mono ?_
  rintro e w1 ⟨rfl, rfl⟩
  go_wp2_with fail
  go_region_held3 (fun W => W.cell? ⟨gn, x * 3, none⟩ = some (.int .i64 (a : Int)) ∧ W.cell? ⟨gn, x * 3 + 1, none⟩ = some (.int .i64 (-1)))
    (first
      | exact ⟨d0, d1⟩
      | exact ⟨s0, s1⟩)
    (first
      | (go_at_call 25; refine (tie_nodeX _ g gl gn m n F E M P X O R0.out ha (ptrAt gl (i * 3)) (-1)).mono ?_; rintro e w2 ⟨rfl, r2, k2⟩; have s0 : w2.cell? ⟨gn, x * 3, none⟩ = some (.int .i64 (a : Int)) := (by have := r2.cellP hx; rwa [HP.out] at this); have s1 : w2.cell? ⟨gn, x * 3 + 1, none⟩ = some (.int .i64 (-1)) := (by have := r2.cellX hx; rwa [show upd X a (-1) x = X x from if_neg (fun e => hax e.symm), HX.out] at this)))
  all_goals
    rename_i hH
    have R2 : Hid (RS w2.drew g gl gn m n F E M P (upd X a (-1)) O) := Lib.hid (r2.below (below_drew (Below.refl _ _)))
    have K2 : Hid (Keep (fun k => k = gl ∨ k = gn) w w2) := Lib.hid (((Keep.refl (fun k => k = gl ∨ k = gn) w).drew).then k2 (fun _ h => .inl h))
    have d2 : w2.drew.cell? ⟨gn, x * 3, none⟩ = some (.int .i64 (a : Int)) := s0
    have d3 : w2.drew.cell? ⟨gn, x * 3 + 1, none⟩ = some (.int .i64 (-1)) := s1
    clear r2 k2 x0 x1 x2 d0 d1 hH
    go_wp2_with fail
    go_region_held3 (fun W => W.cell? ⟨gn, x * 3, none⟩ = some (.int .i64 (a : Int)) ∧ W.cell? ⟨gn, x * 3 + 1, none⟩ = some (.int .i64 (-1)))
      (first
        | exact ⟨d2, d3⟩
        | exact ⟨s2, s3⟩)
      (first
        | (go_at_call 25; refine (tie_listE _ g gl gn m n _ _ _ _ _ _ R2.out hi (a : Int)).mono ?_; rintro e w3 ⟨rfl, r3, k3⟩; have s2 : w3.cell? ⟨gn, x * 3, none⟩ = some (.int .i64 (a : Int)) := (by have := r3.cellP hx; rwa [HP.out] at this); have s3 : w3.cell? ⟨gn, x * 3 + 1, none⟩ = some (.int .i64 (-1)) := (by have := r3.cellX hx; rwa [show upd X a (-1) x = X x from if_neg (fun e => hax e.symm), HX.out] at this)))
    all_goals
      rename_i hH
      have u2 := r3.cellM hi
      have g2 := r3.frozL (i * 3 + 2)
      have y2 := r3.cellO hx
      have f0 := r3.frozN (x * 3)
      have f1 := r3.frozN (x * 3 + 1)
      have f2 := r3.frozN (x * 3 + 2)
      have R4 := Lib.hid ((((r3.setM i (M i - 1)).setO x (-1)).setP x (-1)).setX x (-1))
      have K4 := Lib.hid ((((((K2.out.drew.then k3 (fun _ h => .inl h)).setCell (.inl (.inl rfl)) (.int .i64 (M i - 1)) (p := ⟨gl, i * 3 + 2, none⟩)).setCell (.inl (.inr rfl)) (.int .i64 (-1)) (p := ⟨gn, x * 3 + 2, none⟩)).setCell (.inl (.inr rfl)) (.int .i64 (-1)) (p := ⟨gn, x * 3, none⟩)).setCell (.inl (.inr rfl)) (.int .i64 (-1)) (p := ⟨gn, x * 3 + 1, none⟩)))
      clear r3 k3 hH
      go_wp2_with fail
      go_ret
      exact ⟨rfl, R4.out, K4.out⟩
set_option maxHeartbeats 1000000 in
theorem drop_mid_more (w : World) (g gl gn m n : Nat) (F E M P X O : Nat → Int) (h : RS w g gl gn m n F E M P X O) {i x : Nat} (hi : i < m) (hx : x < n) (hO : O x = (i : Int)) (hM : 0 ≤ M i ∧ M i ≤ 5000) {b : Nat} (hb : b < n) (hbx : b ≠ x) {a : Nat} (ha : a < n) (hax : a ≠ x) (hP : P x = (a : Int)) (hX : X x = (b : Int)) :
    Calls Try.prog 20 #[ptr g, .int .i64 x] w fun e w' => e = .returned (.int .i64 0) ∧ RS w' g gl gn m n F E (upd M i (M i - 1)) (upd (upd P b (a : Int)) x (-1)) (upd (upd X a (b : Int)) x (-1)) (upd O x (-1)) ∧ Keep (fun k => k = gl ∨ k = gn) w w' := by
  have HL := Lib.hid (list_in w g gl gn m n F E M P X O h hi)
  have HN := Lib.hid (node_in w g gl gn m n F E M P X O h hx)
  have x2 := h.cellO hx
  have x0 := h.cellP hx
  have x1 := h.cellX hx
  have hgl : gl ≠ gn := h.2.2.2.2.2.1
  have hm := h.2.2.2.2.2.2
  have HP := Lib.hid hP
  have HX := Lib.hid hX
  rw [hO] at x2
  rw [hP] at x0
  rw [hX] at x1
  have hne : ((i : Int) == -1) = false := beq_eq_false_iff_ne.2 (by omega)
  have R0 : Hid (RS w.drew g gl gn m n F E M P X O) := Lib.hid (h.below (below_drew (Below.refl _ _)))
  have d0 : w.drew.cell? ⟨gn, x * 3, none⟩ = some (.int .i64 (a : Int)) := x0
  have d1 : w.drew.cell? ⟨gn, x * 3 + 1, none⟩ = some (.int .i64 (b : Int)) := x1
  clear h hO hP hX
  go_enter Try.func20, Try.ntmps20
  go_wp2_with fail
  refine HN.out.mono ?_
  rintro e w1 ⟨rfl, rfl⟩
  go_wp2_with fail
  refine HL.out.mono ?_
  rintro e w1 ⟨rfl, rfl⟩
  go_wp2_with fail
  go_region_held3 (fun W => W.cell? ⟨gn, x * 3, none⟩ = some (.int .i64 (a : Int)) ∧ W.cell? ⟨gn, x * 3 + 1, none⟩ = some (.int .i64 (b : Int)))
    (first
      | exact ⟨d0, d1⟩
      | exact ⟨s0, s1⟩)
    (first
      | (go_at_call 25; refine (tie_nodeX _ g gl gn m n F E M P X O R0.out ha (ptrAt gl (i * 3)) (b : Int)).mono ?_; rintro e w2 ⟨rfl, r2, k2⟩; have s0 : w2.cell? ⟨gn, x * 3, none⟩ = some (.int .i64 (a : Int)) := (by have := r2.cellP hx; rwa [HP.out] at this); have s1 : w2.cell? ⟨gn, x * 3 + 1, none⟩ = some (.int .i64 (b : Int)) := (by have := r2.cellX hx; rwa [show upd X a (b : Int) x = X x from if_neg (fun e => hax e.symm), HX.out] at this)))
  all_goals
    rename_i hH
    have R2 : Hid (RS w2.drew g gl gn m n F E M P (upd X a (b : Int)) O) := Lib.hid (r2.below (below_drew (Below.refl _ _)))
    have K2 : Hid (Keep (fun k => k = gl ∨ k = gn) w w2) := Lib.hid (((Keep.refl (fun k => k = gl ∨ k = gn) w).drew).then k2 (fun _ h => .inl h))
    have d2 : w2.drew.cell? ⟨gn, x * 3, none⟩ = some (.int .i64 (a : Int)) := s0
    have d3 : w2.drew.cell? ⟨gn, x * 3 + 1, none⟩ = some (.int .i64 (b : Int)) := s1
    clear r2 k2 x0 x1 x2 d0 d1 hH
    go_wp2_with fail
    go_region_held3 (fun W => W.cell? ⟨gn, x * 3, none⟩ = some (.int .i64 (a : Int)) ∧ W.cell? ⟨gn, x * 3 + 1, none⟩ = some (.int .i64 (b : Int)))
      (first
        | exact ⟨d2, d3⟩
        | exact ⟨s2, s3⟩)
      (first
        | (go_at_call 25; refine (tie_nodeP _ g gl gn m n _ _ _ _ _ _ R2.out hb (ptrAt gl (i * 3)) (a : Int)).mono ?_; rintro e w3 ⟨rfl, r3, k3⟩; have s2 : w3.cell? ⟨gn, x * 3, none⟩ = some (.int .i64 (a : Int)) := (by have := r3.cellP hx; rwa [show upd P b (a : Int) x = P x from if_neg (fun e => hbx e.symm), HP.out] at this); have s3 : w3.cell? ⟨gn, x * 3 + 1, none⟩ = some (.int .i64 (b : Int)) := (by have := r3.cellX hx; rwa [show upd X a (b : Int) x = X x from if_neg (fun e => hax e.symm), HX.out] at this)))
    all_goals
      rename_i hH
      have u2 := r3.cellM hi
      have g2 := r3.frozL (i * 3 + 2)
      have y2 := r3.cellO hx
      have f0 := r3.frozN (x * 3)
      have f1 := r3.frozN (x * 3 + 1)
      have f2 := r3.frozN (x * 3 + 2)
      have R4 := Lib.hid ((((r3.setM i (M i - 1)).setO x (-1)).setP x (-1)).setX x (-1))
      have K4 := Lib.hid ((((((K2.out.drew.then k3 (fun _ h => .inl h)).setCell (.inl (.inl rfl)) (.int .i64 (M i - 1)) (p := ⟨gl, i * 3 + 2, none⟩)).setCell (.inl (.inr rfl)) (.int .i64 (-1)) (p := ⟨gn, x * 3 + 2, none⟩)).setCell (.inl (.inr rfl)) (.int .i64 (-1)) (p := ⟨gn, x * 3, none⟩)).setCell (.inl (.inr rfl)) (.int .i64 (-1)) (p := ⟨gn, x * 3 + 1, none⟩)))
      clear r3 k3 hH
      go_wp2_with fail
      go_ret
      exact ⟨rfl, R4.out, K4.out⟩
end Go.Proofs.Ythjbggdcninckaa
