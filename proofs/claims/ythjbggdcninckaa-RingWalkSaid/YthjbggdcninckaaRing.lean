/- ring's lists and nodes in memory; the contracts of list, node, end and tie. -/
import Derived.Test.YthjbggdcninckaaRow
import Derived.Test.YthjbggdcninckaaVV
import Derived.IntWalk
namespace Go.Proofs.Ythjbggdcninckaa
open Go.RowKit
set_option linter.unusedVariables false

abbrev ptr (g : Nat) : Value := .pointer (some ⟨g, 0, none⟩)
abbrev ptrAt (g o : Nat) : Value := .pointer (some ⟨g, o, none⟩)
def tf (a0 a1 a2 : Nat → Int) (j : Nat) : Value := if j % 3 = 0 then .int .i64 (a0 (j / 3)) else if j % 3 = 1 then .int .i64 (a1 (j / 3)) else .int .i64 (a2 (j / 3))
theorem tf_a0 (a0 a1 a2 : Nat → Int) (i : Nat) : tf a0 a1 a2 (i * 3) = .int .i64 (a0 i) := by unfold tf; rw [if_pos (by omega), show i * 3 / 3 = i from by omega]
theorem tf_a1 (a0 a1 a2 : Nat → Int) (i : Nat) : tf a0 a1 a2 (i * 3 + 1) = .int .i64 (a1 i) := by unfold tf; rw [if_neg (by omega), if_pos (by omega), show (i * 3 + 1) / 3 = i from by omega]
theorem tf_a2 (a0 a1 a2 : Nat → Int) (i : Nat) : tf a0 a1 a2 (i * 3 + 2) = .int .i64 (a2 i) := by unfold tf; rw [if_neg (by omega), if_neg (by omega), show (i * 3 + 2) / 3 = i from by omega]
theorem tf_set_a0 (a0 a1 a2 : Nat → Int) (i : Nat) (v : Int) (j : Nat) : (if j = i * 3 then .int .i64 v else tf a0 a1 a2 j) = tf (upd a0 i v) a1 a2 j := by
  unfold tf upd
  by_cases h : j = i * 3
  · rw [if_pos h, if_pos (by omega), if_pos (by omega)]
  · rw [if_neg h]
    by_cases h2 : j % 3 = 0
    · rw [if_pos h2, if_pos h2, if_neg (by omega)]
    · rw [if_neg h2, if_neg h2]
theorem tf_set_a1 (a0 a1 a2 : Nat → Int) (i : Nat) (v : Int) (j : Nat) : (if j = i * 3 + 1 then .int .i64 v else tf a0 a1 a2 j) = tf a0 (upd a1 i v) a2 j := by
  unfold tf upd
  by_cases h : j = i * 3 + 1
  · rw [if_pos h, if_neg (by omega), if_pos (by omega), if_pos (by omega)]
  · rw [if_neg h]
    by_cases h2 : j % 3 = 0
    · rw [if_pos h2, if_pos h2]
    · rw [if_neg h2, if_neg h2]
      by_cases h3 : j % 3 = 1
      · rw [if_pos h3, if_pos h3, if_neg (by omega)]
      · rw [if_neg h3, if_neg h3]
theorem tf_set_a2 (a0 a1 a2 : Nat → Int) (i : Nat) (v : Int) (j : Nat) : (if j = i * 3 + 2 then .int .i64 v else tf a0 a1 a2 j) = tf a0 a1 (upd a2 i v) j := by
  unfold tf upd
  by_cases h : j = i * 3 + 2
  · rw [if_pos h, if_neg (by omega), if_neg (by omega), if_pos (by omega)]
  · rw [if_neg h]
    by_cases h2 : j % 3 = 0
    · rw [if_pos h2, if_pos h2]
    · rw [if_neg h2, if_neg h2]
      by_cases h3 : j % 3 = 1
      · rw [if_pos h3, if_pos h3]
      · rw [if_neg h3, if_neg h3, if_neg (by omega)]


/-- the box, the lists (first, last, how many) and the nodes (ahead, behind, of) -/
def RS (w : World) (g gl gn m n : Nat) (F E M P X O : Nat → Int) : Prop :=
  w.heap[g]? = some (.cells #[.slice (some ⟨gl, 0, none⟩) m m, .slice (some ⟨gn, 0, none⟩) n n] 49 (0, 0)) ∧ Row w gl 54 (tf F E M) (m * 3) ∧ Row w gn 56 (tf P X O) (n * 3) ∧ g ≠ gl ∧ g ≠ gn ∧ gl ≠ gn ∧ m ≤ 64 ∧ n ≤ 4096
theorem RS.keep {S : Nat → Prop} {w w' : World} {g gl gn m n : Nat} {F E M P X O : Nat → Int} (h : RS w g gl gn m n F E M P X O) (k : Keep S w w') (h1 : ¬ S g) (h2 : ¬ S gl) (h3 : ¬ S gn) : RS w' g gl gn m n F E M P X O :=
  ⟨k.blk h.1 h1, row_keep h.2.1 k h2, row_keep h.2.2.1 k h3, h.2.2.2⟩
theorem RS.below {w w' : World} {g gl gn m n : Nat} {F E M P X O : Nat → Int} (h : RS w g gl gn m n F E M P X O) (k : Below w.heap.size w w') : RS w' g gl gn m n F E M P X O :=
  h.keep (S := fun _ => False) (Keep.of_below k) (fun h => h) (fun h => h) (fun h => h)
theorem RS.lt {w : World} {g gl gn m n : Nat} {F E M P X O : Nat → Int} (h : RS w g gl gn m n F E M P X O) : g < w.heap.size ∧ gl < w.heap.size ∧ gn < w.heap.size := ⟨blk_lt h.1, row_lt h.2.1, row_lt h.2.2.1⟩
theorem RS.cellF {w : World} {g gl gn m n : Nat} {F E M P X O : Nat → Int} (h : RS w g gl gn m n F E M P X O) {i : Nat} (hi : i < m) : w.cell? ⟨gl, i * 3, none⟩ = some (.int .i64 (F i)) := by
  have := row_cell (i := i * 3) h.2.1 (by omega)
  rwa [tf_a0] at this
theorem RS.setF {w : World} {g gl gn m n : Nat} {F E M P X O : Nat → Int} (h : RS w g gl gn m n F E M P X O) (i : Nat) (v : Int) : RS (w.setCell ⟨gl, i * 3, none⟩ (.int .i64 v)) g gl gn m n (upd F i v) E M P X O :=
  ⟨blk_far h.1 (p := ⟨gl, i * 3, none⟩) h.2.2.2.1 _, row_ext (row_set h.2.1 (i * 3) (.int .i64 v)) (fun j _ => tf_set_a0 _ _ _ i v j), row_far h.2.2.1 (p := ⟨gl, i * 3, none⟩) (fun e => h.2.2.2.2.2.1 e.symm) _, h.2.2.2⟩
theorem RS.cellE {w : World} {g gl gn m n : Nat} {F E M P X O : Nat → Int} (h : RS w g gl gn m n F E M P X O) {i : Nat} (hi : i < m) : w.cell? ⟨gl, i * 3 + 1, none⟩ = some (.int .i64 (E i)) := by
  have := row_cell (i := i * 3 + 1) h.2.1 (by omega)
  rwa [tf_a1] at this
theorem RS.setE {w : World} {g gl gn m n : Nat} {F E M P X O : Nat → Int} (h : RS w g gl gn m n F E M P X O) (i : Nat) (v : Int) : RS (w.setCell ⟨gl, i * 3 + 1, none⟩ (.int .i64 v)) g gl gn m n F (upd E i v) M P X O :=
  ⟨blk_far h.1 (p := ⟨gl, i * 3 + 1, none⟩) h.2.2.2.1 _, row_ext (row_set h.2.1 (i * 3 + 1) (.int .i64 v)) (fun j _ => tf_set_a1 _ _ _ i v j), row_far h.2.2.1 (p := ⟨gl, i * 3 + 1, none⟩) (fun e => h.2.2.2.2.2.1 e.symm) _, h.2.2.2⟩
theorem RS.cellM {w : World} {g gl gn m n : Nat} {F E M P X O : Nat → Int} (h : RS w g gl gn m n F E M P X O) {i : Nat} (hi : i < m) : w.cell? ⟨gl, i * 3 + 2, none⟩ = some (.int .i64 (M i)) := by
  have := row_cell (i := i * 3 + 2) h.2.1 (by omega)
  rwa [tf_a2] at this
theorem RS.setM {w : World} {g gl gn m n : Nat} {F E M P X O : Nat → Int} (h : RS w g gl gn m n F E M P X O) (i : Nat) (v : Int) : RS (w.setCell ⟨gl, i * 3 + 2, none⟩ (.int .i64 v)) g gl gn m n F E (upd M i v) P X O :=
  ⟨blk_far h.1 (p := ⟨gl, i * 3 + 2, none⟩) h.2.2.2.1 _, row_ext (row_set h.2.1 (i * 3 + 2) (.int .i64 v)) (fun j _ => tf_set_a2 _ _ _ i v j), row_far h.2.2.1 (p := ⟨gl, i * 3 + 2, none⟩) (fun e => h.2.2.2.2.2.1 e.symm) _, h.2.2.2⟩
theorem RS.cellP {w : World} {g gl gn m n : Nat} {F E M P X O : Nat → Int} (h : RS w g gl gn m n F E M P X O) {i : Nat} (hi : i < n) : w.cell? ⟨gn, i * 3, none⟩ = some (.int .i64 (P i)) := by
  have := row_cell (i := i * 3) h.2.2.1 (by omega)
  rwa [tf_a0] at this
theorem RS.setP {w : World} {g gl gn m n : Nat} {F E M P X O : Nat → Int} (h : RS w g gl gn m n F E M P X O) (i : Nat) (v : Int) : RS (w.setCell ⟨gn, i * 3, none⟩ (.int .i64 v)) g gl gn m n F E M (upd P i v) X O :=
  ⟨blk_far h.1 (p := ⟨gn, i * 3, none⟩) h.2.2.2.2.1 _, row_far h.2.1 (p := ⟨gn, i * 3, none⟩) h.2.2.2.2.2.1 _, row_ext (row_set h.2.2.1 (i * 3) (.int .i64 v)) (fun j _ => tf_set_a0 _ _ _ i v j), h.2.2.2⟩
theorem RS.cellX {w : World} {g gl gn m n : Nat} {F E M P X O : Nat → Int} (h : RS w g gl gn m n F E M P X O) {i : Nat} (hi : i < n) : w.cell? ⟨gn, i * 3 + 1, none⟩ = some (.int .i64 (X i)) := by
  have := row_cell (i := i * 3 + 1) h.2.2.1 (by omega)
  rwa [tf_a1] at this
theorem RS.setX {w : World} {g gl gn m n : Nat} {F E M P X O : Nat → Int} (h : RS w g gl gn m n F E M P X O) (i : Nat) (v : Int) : RS (w.setCell ⟨gn, i * 3 + 1, none⟩ (.int .i64 v)) g gl gn m n F E M P (upd X i v) O :=
  ⟨blk_far h.1 (p := ⟨gn, i * 3 + 1, none⟩) h.2.2.2.2.1 _, row_far h.2.1 (p := ⟨gn, i * 3 + 1, none⟩) h.2.2.2.2.2.1 _, row_ext (row_set h.2.2.1 (i * 3 + 1) (.int .i64 v)) (fun j _ => tf_set_a1 _ _ _ i v j), h.2.2.2⟩
theorem RS.cellO {w : World} {g gl gn m n : Nat} {F E M P X O : Nat → Int} (h : RS w g gl gn m n F E M P X O) {i : Nat} (hi : i < n) : w.cell? ⟨gn, i * 3 + 2, none⟩ = some (.int .i64 (O i)) := by
  have := row_cell (i := i * 3 + 2) h.2.2.1 (by omega)
  rwa [tf_a2] at this
theorem RS.setO {w : World} {g gl gn m n : Nat} {F E M P X O : Nat → Int} (h : RS w g gl gn m n F E M P X O) (i : Nat) (v : Int) : RS (w.setCell ⟨gn, i * 3 + 2, none⟩ (.int .i64 v)) g gl gn m n F E M P X (upd O i v) :=
  ⟨blk_far h.1 (p := ⟨gn, i * 3 + 2, none⟩) h.2.2.2.2.1 _, row_far h.2.1 (p := ⟨gn, i * 3 + 2, none⟩) h.2.2.2.2.2.1 _, row_ext (row_set h.2.2.1 (i * 3 + 2) (.int .i64 v)) (fun j _ => tf_set_a2 _ _ _ i v j), h.2.2.2⟩
theorem RS.frozL {w : World} {g gl gn m n : Nat} {F E M P X O : Nat → Int} (h : RS w g gl gn m n F E M P X O) (j : Nat) : w.frozen? ⟨gl, j, none⟩ = false := row_frozen h.2.1 j
theorem RS.frozN {w : World} {g gl gn m n : Nat} {F E M P X O : Nat → Int} (h : RS w g gl gn m n F E M P X O) (j : Nat) : w.frozen? ⟨gn, j, none⟩ = false := row_frozen h.2.2.1 j
theorem list_nil (w : World) (i : Int) : Calls Try.prog 22 #[.pointer none, .int .i64 i] w fun e w' => e = .returned (.pointer none) ∧ w = w' := by
  go_enter Try.func22, Try.ntmps22
  go_wp2_with fail
  go_ret
  exact ⟨rfl, rfl⟩
theorem list_in (w : World) (g gl gn m n : Nat) (F E M P X O : Nat → Int) (h : RS w g gl gn m n F E M P X O) {i : Nat} (hi : i < m) : Calls Try.prog 22 #[ptr g, .int .i64 i] w fun e w' => e = .returned (ptrAt gl (i * 3)) ∧ w = w' := by
  have c0 := blk_cell h.1 0
  have c1 := blk_cell h.1 1
  have hm := h.2.2.2.2.2.2
  clear h
  go_enter Try.func22, Try.ntmps22
  go_wp2_with fail
  go_ret
  exact ⟨rfl, rfl⟩
theorem list_out (w : World) (g gl gn m n : Nat) (F E M P X O : Nat → Int) (h : RS w g gl gn m n F E M P X O) {i : Int} (hi : i < 0 ∨ (m : Int) ≤ i) : Calls Try.prog 22 #[ptr g, .int .i64 i] w fun e w' => e = .returned (.pointer none) ∧ w = w' := by
  have c0 := blk_cell h.1 0
  have c1 := blk_cell h.1 1
  have hm := h.2.2.2.2.2.2
  clear h
  by_cases g1 : i < 0
  · clear hi
    go_enter Try.func22, Try.ntmps22
    go_wp2_with fail
    go_ret
    exact ⟨rfl, rfl⟩
  · have g2 : (m : Int) ≤ i := by omega
    clear hi
    go_enter Try.func22, Try.ntmps22
    go_wp2_with fail
    go_ret
    exact ⟨rfl, rfl⟩
theorem node_nil (w : World) (i : Int) : Calls Try.prog 23 #[.pointer none, .int .i64 i] w fun e w' => e = .returned (.pointer none) ∧ w = w' := by
  go_enter Try.func23, Try.ntmps23
  go_wp2_with fail
  go_ret
  exact ⟨rfl, rfl⟩
theorem node_in (w : World) (g gl gn m n : Nat) (F E M P X O : Nat → Int) (h : RS w g gl gn m n F E M P X O) {i : Nat} (hi : i < n) : Calls Try.prog 23 #[ptr g, .int .i64 i] w fun e w' => e = .returned (ptrAt gn (i * 3)) ∧ w = w' := by
  have c0 := blk_cell h.1 0
  have c1 := blk_cell h.1 1
  have hm := h.2.2.2.2.2.2
  clear h
  go_enter Try.func23, Try.ntmps23
  go_wp2_with fail
  go_ret
  exact ⟨rfl, rfl⟩
theorem node_out (w : World) (g gl gn m n : Nat) (F E M P X O : Nat → Int) (h : RS w g gl gn m n F E M P X O) {i : Int} (hi : i < 0 ∨ (n : Int) ≤ i) : Calls Try.prog 23 #[ptr g, .int .i64 i] w fun e w' => e = .returned (.pointer none) ∧ w = w' := by
  have c0 := blk_cell h.1 0
  have c1 := blk_cell h.1 1
  have hm := h.2.2.2.2.2.2
  clear h
  by_cases g1 : i < 0
  · clear hi
    go_enter Try.func23, Try.ntmps23
    go_wp2_with fail
    go_ret
    exact ⟨rfl, rfl⟩
  · have g2 : (n : Int) ≤ i := by omega
    clear hi
    go_enter Try.func23, Try.ntmps23
    go_wp2_with fail
    go_ret
    exact ⟨rfl, rfl⟩
theorem end0 (w : World) (b off : Nat) (v : Value) (h : w.cell? ⟨b, off, none⟩ = some v) : Calls Try.prog 24 #[ptrAt b off, .int .i64 0] w fun e w' => e = .returned v ∧ w = w' := by
  go_enter Try.func24, Try.ntmps24
  go_wp2_with fail
  go_ret
  exact ⟨rfl, rfl⟩
theorem end1 (w : World) (b off : Nat) (v : Value) (h : w.cell? ⟨b, off + 1, none⟩ = some v) : Calls Try.prog 24 #[ptrAt b off, .int .i64 1] w fun e w' => e = .returned v ∧ w = w' := by
  go_enter Try.func24, Try.ntmps24
  go_wp2_with fail
  go_ret
  exact ⟨rfl, rfl⟩
theorem tie_listE (w : World) (g gl gn m n : Nat) (F E M P X O : Nat → Int) (h : RS w g gl gn m n F E M P X O) {i : Nat} (hi : i < m) (v : Int) : Calls Try.prog 25 #[ptr g, ptrAt gl (i * 3), .int .i64 (-1), .int .i64 0, .int .i64 v] w fun e w' => e = .returned (.tuple #[]) ∧ RS w' g gl gn m n F (upd E i v) M P X O ∧ Keep (fun k => k = gl ∨ k = gn) w w' := by
  have x0 := h.cellE hi
  have y0 := h.frozL (i * 3 + 1)
  have H := Lib.hid h
  clear h
  go_enter Try.func25, Try.ntmps25
  go_wp2_with fail
  go_returns
  exact ⟨rfl, H.out.setE i v, (Keep.refl _ _).setCell (.inl (.inl rfl)) _⟩
theorem tie_listF (w : World) (g gl gn m n : Nat) (F E M P X O : Nat → Int) (h : RS w g gl gn m n F E M P X O) {i : Nat} (hi : i < m) (v : Int) : Calls Try.prog 25 #[ptr g, ptrAt gl (i * 3), .int .i64 (-1), .int .i64 1, .int .i64 v] w fun e w' => e = .returned (.tuple #[]) ∧ RS w' g gl gn m n (upd F i v) E M P X O ∧ Keep (fun k => k = gl ∨ k = gn) w w' := by
  have x0 := h.cellF hi
  have y0 := h.frozL (i * 3)
  have H := Lib.hid h
  clear h
  go_enter Try.func25, Try.ntmps25
  go_wp2_with fail
  go_returns
  exact ⟨rfl, H.out.setF i v, (Keep.refl _ _).setCell (.inl (.inl rfl)) _⟩
theorem tie_nodeP (w : World) (g gl gn m n : Nat) (F E M P X O : Nat → Int) (h : RS w g gl gn m n F E M P X O) {j : Nat} (hj : j < n) (p : Value) (v : Int) : Calls Try.prog 25 #[ptr g, p, .int .i64 j, .int .i64 0, .int .i64 v] w fun e w' => e = .returned (.tuple #[]) ∧ RS w' g gl gn m n F E M (upd P j v) X O ∧ Keep (fun k => k = gl ∨ k = gn) w w' := by
  have c1 := blk_cell h.1 1
  have x0 := h.cellP hj
  have y0 := h.frozN (j * 3)
  have hm := h.2.2.2.2.2.2
  have hne : ((j : Int) == -1) = false := beq_eq_false_iff_ne.2 (by omega)
  have H := Lib.hid h
  clear h
  go_enter Try.func25, Try.ntmps25
  go_wp2_with fail
  go_returns
  exact ⟨rfl, H.out.setP j v, (Keep.refl _ _).setCell (.inl (.inr rfl)) _⟩
theorem tie_nodeX (w : World) (g gl gn m n : Nat) (F E M P X O : Nat → Int) (h : RS w g gl gn m n F E M P X O) {j : Nat} (hj : j < n) (p : Value) (v : Int) : Calls Try.prog 25 #[ptr g, p, .int .i64 j, .int .i64 1, .int .i64 v] w fun e w' => e = .returned (.tuple #[]) ∧ RS w' g gl gn m n F E M P (upd X j v) O ∧ Keep (fun k => k = gl ∨ k = gn) w w' := by
  have c1 := blk_cell h.1 1
  have x0 := h.cellX hj
  have y0 := h.frozN (j * 3 + 1)
  have hm := h.2.2.2.2.2.2
  have hne : ((j : Int) == -1) = false := beq_eq_false_iff_ne.2 (by omega)
  have H := Lib.hid h
  clear h
  go_enter Try.func25, Try.ntmps25
  go_wp2_with fail
  go_returns
  exact ⟨rfl, H.out.setX j v, (Keep.refl _ _).setCell (.inl (.inr rfl)) _⟩
end Go.Proofs.Ythjbggdcninckaa
