/- The reference's Push and Drop (almeryref07). -/
import Derived.Test.YthjbggdcninckaaRRing2
namespace Go.Proofs.Ythjbggdcninckaa
open Go.RowKit
set_option linter.unusedVariables false

theorem vv_take {B : Nat → Prop} {w : World} {a : Option Addr} {c k n : Nat} {l : List Value} (h : VV B w (.slice a n c) l) (hk : k ≤ l.length) : VV B w (.slice a k c) (l.take k) := by
  obtain ⟨a', c', e, h2, h3, h4, h5⟩ := h
  cases e
  refine ⟨a, c, by rw [List.length_take, Nat.min_eq_left hk], by rw [List.length_take]; omega, h3, h4, ?_⟩
  rcases h5 with h5 | ⟨b, off, ha, hb, h5⟩
  · exact .inl (by rw [List.length_take]; omega)
  · refine .inr ⟨b, off, ha, hb, fun i u hi => h5 i u ?_⟩
    rw [List.getElem?_take] at hi
    split at hi
    · exact hi
    · cases hi
theorem vv_end {B : Nat → Prop} {w : World} {a : Option Addr} {c k n : Nat} {l : List Value} (h : VV B w (.slice a n c) l) (hk : k = l.length) (hc : c = k) : l.drop k = [] ∧ VV B w (.slice a 0 0) (l.drop k) := by
  have hd : l.drop k = [] := List.drop_eq_nil_of_le (by omega)
  rw [hd]
  exact ⟨rfl, a, 0, rfl, Nat.le_refl _, Nat.zero_le _, fun _ => rfl, .inl rfl⟩
theorem vv_drop {B : Nat → Prop} {w : World} {a : Option Addr} {c k n : Nat} {l : List Value} (h : VV B w (.slice a n c) l) (hk : k ≤ l.length) (hc : ¬ c = k) : VV B w (.slice (Option.map (fun x => x.add k) a) (n - k) (c - k)) (l.drop k) := by
  obtain ⟨a', c', e, h2, h3, h4, h5⟩ := h
  cases e
  refine ⟨Option.map (fun x => x.add k) a, c - k, by rw [List.length_drop], by rw [List.length_drop]; omega, by omega, fun e => ?_, ?_⟩
  · cases a with
    | none => have := h4 rfl; omega
    | some p => cases e
  · rcases h5 with h5 | ⟨b, off, ha, hb, h5⟩
    · exact .inl (by rw [List.length_drop]; omega)
    · subst ha
      refine .inr ⟨b, off + k, by rw [Option.map_some, WideShapes.add_plain], hb, fun i u hi => ?_⟩
      rw [List.getElem?_drop] at hi
      rw [show off + k + i = off + (k + i) from by omega]
      exact h5 (k + i) u hi
theorem ilist_take (l : List Nat) (k : Nat) : (ilist l).take k = ilist (l.take k) := by simp [ilist, List.map_take]
theorem ilist_drop (l : List Nat) (k : Nat) : (ilist l).drop k = ilist (l.drop k) := by simp [ilist, List.map_drop]
theorem ilist_app (a b : List Nat) : ilist (a ++ b) = ilist a ++ ilist b := by simp [ilist]

theorem rdrop_arg (B : Nat → Prop) (w : World) (v : Value) (m n : Nat) (L : Nat → List Nat) (h : RV B w v m n L) (x : Int) (hx : x < 0 ∨ (n : Int) ≤ x) :
    Calls Try.prog 26 #[v, .int .i64 x] w fun e w' => e = .returned (.tuple #[v, .int .i64 1]) ∧ Below w.heap.size w w' := by
  obtain ⟨aL, cL, rfl, hc⟩ := h.val
  have BE := Lib.hid (((Below.refl w.heap.size w).alloc (Nat.le_refl _) (.cells #[.slice aL m cL, .int .i64 n] 29)).alloc (by simp) (.cells #[.slice aL m cL, .int .i64 n] 29))
  have YE : ((w.alloc (.cells #[.slice aL m cL, .int .i64 n] 29)).alloc (.cells #[.slice aL m cL, .int .i64 n] 29)).heap[w.heap.size + 1]? = some (.cells #[.slice aL m cL, .int .i64 n] 29 (0, 0)) := by have := blk_new (w.alloc (.cells #[.slice aL m cL, .int .i64 n] 29)) (.cells #[.slice aL m cL, .int .i64 n] 29); simpa using this
  have e0 := blk_cell YE 0
  have e1 := blk_cell YE 1
  clear YE
  clear h
  by_cases g1 : x < 0
  · clear hx
    go_enter Try.func26, Try.ntmps26
    go_wp2_with fail
    refine bodyPost_ret (v := .tuple #[.agg #[.slice aL m cL, .int .i64 n], .int .i64 1]) (by simp [results, Try.results26, go_sem, e0, e1]) rfl ⟨rfl, BE.out⟩
  · have g2 : (n : Int) ≤ x := by omega
    clear hx
    go_enter Try.func26, Try.ntmps26
    go_wp2_with fail
    refine bodyPost_ret (v := .tuple #[.agg #[.slice aL m cL, .int .i64 n], .int .i64 1]) (by simp [results, Try.results26, go_sem, e0, e1]) rfl ⟨rfl, BE.out⟩
theorem rpush_arg (B : Nat → Prop) (w : World) (v : Value) (m n : Nat) (L : Nat → List Nat) (h : RV B w v m n L) (i x : Int) (hx : (i < 0 ∨ (m : Int) ≤ i) ∨ (x < 0 ∨ (n : Int) ≤ x)) :
    Calls Try.prog 27 #[v, .int .i64 i, .int .i64 x] w fun e w' => e = .returned (.tuple #[v, .int .i64 1]) ∧ Below w.heap.size w w' := by
  obtain ⟨aL, cL, rfl, hc⟩ := h.val
  have BE := Lib.hid (((Below.refl w.heap.size w).alloc (Nat.le_refl _) (.cells #[.slice aL m cL, .int .i64 n] 29)).alloc (by simp) (.cells #[.slice aL m cL, .int .i64 n] 29))
  have YE : ((w.alloc (.cells #[.slice aL m cL, .int .i64 n] 29)).alloc (.cells #[.slice aL m cL, .int .i64 n] 29)).heap[w.heap.size + 1]? = some (.cells #[.slice aL m cL, .int .i64 n] 29 (0, 0)) := by have := blk_new (w.alloc (.cells #[.slice aL m cL, .int .i64 n] 29)) (.cells #[.slice aL m cL, .int .i64 n] 29); simpa using this
  have e0 := blk_cell YE 0
  have e1 := blk_cell YE 1
  clear YE
  clear h
  by_cases g1 : i < 0
  · clear hx
    go_enter Try.func27, Try.ntmps27
    go_wp2_with fail
    refine bodyPost_ret (v := .tuple #[.agg #[.slice aL m cL, .int .i64 n], .int .i64 1]) (by simp [results, Try.results27, go_sem, e0, e1]) rfl ⟨rfl, BE.out⟩
  · by_cases g2 : (m : Int) ≤ i
    · clear hx
      go_enter Try.func27, Try.ntmps27
      go_wp2_with fail
      refine bodyPost_ret (v := .tuple #[.agg #[.slice aL m cL, .int .i64 n], .int .i64 1]) (by simp [results, Try.results27, go_sem, e0, e1]) rfl ⟨rfl, BE.out⟩
    · by_cases g3 : x < 0
      · clear hx
        go_enter Try.func27, Try.ntmps27
        go_wp2_with fail
        refine bodyPost_ret (v := .tuple #[.agg #[.slice aL m cL, .int .i64 n], .int .i64 1]) (by simp [results, Try.results27, go_sem, e0, e1]) rfl ⟨rfl, BE.out⟩
      · have g4 : (n : Int) ≤ x := by omega
        clear hx
        go_enter Try.func27, Try.ntmps27
        go_wp2_with fail
        refine bodyPost_ret (v := .tuple #[.agg #[.slice aL m cL, .int .i64 n], .int .i64 1]) (by simp [results, Try.results27, go_sem, e0, e1]) rfl ⟨rfl, BE.out⟩
set_option maxHeartbeats 1000000 in
theorem rdrop_none (B : Nat → Prop) (w : World) (v : Value) (m n : Nat) (L : Nat → List Nat) (h : RV B w v m n L) {y : Nat} (hy : y < n) (hno : ∀ j, j < m → ∀ z, z ∈ L j → (z : Int) ≠ y) :
    Calls Try.prog 26 #[v, .int .i64 y] w fun e w' => e = .returned (.tuple #[v, .int .i64 9]) ∧ Below w.heap.size w w' := by
  obtain ⟨aL, cL, rfl, hc⟩ := h.val
  have H := Lib.hid h
  have B0 := Lib.hid (((Below.refl w.heap.size w).alloc (Nat.le_refl _) (.cells #[.slice aL m cL, .int .i64 n] 29)).alloc (by simp) (.cells #[.slice none 0 0, .int .i64 0] 29))
  have X0 : Hid (((w.alloc (.cells #[.slice aL m cL, .int .i64 n] 29)).alloc (.cells #[.slice none 0 0, .int .i64 0] 29)).heap[w.heap.size]? = some (.cells #[.slice aL m cL, .int .i64 n] 29 (0, 0))) := Lib.hid (blk_alloc (blk_new w _) _)
  have X1 : Hid (((w.alloc (.cells #[.slice aL m cL, .int .i64 n] 29)).alloc (.cells #[.slice none 0 0, .int .i64 0] 29)).heap[w.heap.size + 1]? = some (.cells #[.slice none 0 0, .int .i64 0] 29 (0, 0))) := Lib.hid (by have := blk_new (w.alloc (.cells #[.slice aL m cL, .int .i64 n] 29)) (.cells #[.slice none 0 0, .int .i64 0] 29); simpa using this)
  have HNO := Lib.hid hno
  clear h hno
  go_enter Try.func26, Try.ntmps26
  go_wp2_with fail
  refine (rplace_none B _ _ m n L (H.out.keep B0.out) (y : Int) HNO.out).mono ?_
  rintro e w2 ⟨rfl, b2⟩
  have X0_2 := Lib.hid (below_blk b2 X0.out (blk_lt X0.out))
  have X1_2 := Lib.hid (below_blk b2 X1.out (blk_lt X1.out))
  have B2 := Lib.hid (B0.out.trans (b2.mono B0.out.size))
  have HZ2 := b2.size
  simp only [World.size_alloc] at HZ2
  clear b2
  have y0 := blk_cell X0_2.out 0
  have y1 := blk_cell X0_2.out 1
  have s0 := blk_cell X1_2.out 0
  have s1 := blk_cell X1_2.out 1
  have t0 := blk_frozen X1_2.out 0
  have t1 := blk_frozen X1_2.out 1
  go_wp2_with fail
  have YF := blk_set (blk_set X1_2.out 0 (.slice aL m cL)) 1 (.int .i64 n)
  have q0 := blk_cell YF 0
  have q1 := blk_cell YF 1
  have BF := Lib.hid (below1 (below1 B2.out (show w.heap.size ≤ w.heap.size + 1 by omega) B2.out.size 0 (.slice aL m cL)) (show w.heap.size ≤ w.heap.size + 1 by omega) (by simp; exact B2.out.size) 1 (.int .i64 n))
  clear YF
  refine bodyPost_ret (v := .tuple #[.agg #[.slice aL m cL, .int .i64 n], .int .i64 9]) (by simp [results, Try.results26, go_sem, q0, q1]) rfl ⟨rfl, BF.out⟩
set_option maxHeartbeats 1000000 in
theorem rpush_there (B : Nat → Prop) (w : World) (v : Value) (m n : Nat) (L : Nat → List Nat) (h : RV B w v m n L) {k y : Nat} (hk : k < m) (hy : y < n) {i : Nat} {a b : List Nat} (hi : i < m) (hL : L i = a ++ y :: b) (hna : y ∉ a) (hno : ∀ j, j < i → y ∉ L j) :
    Calls Try.prog 27 #[v, .int .i64 k, .int .i64 y] w fun e w' => e = .returned (.tuple #[v, .int .i64 10]) ∧ Below w.heap.size w w' := by
  obtain ⟨aL, cL, rfl, hc⟩ := h.val
  have H := Lib.hid h
  have B0 := Lib.hid (((Below.refl w.heap.size w).alloc (Nat.le_refl _) (.cells #[.slice aL m cL, .int .i64 n] 29)).alloc (by simp) (.cells #[.slice none 0 0, .int .i64 0] 29))
  have X0 : Hid (((w.alloc (.cells #[.slice aL m cL, .int .i64 n] 29)).alloc (.cells #[.slice none 0 0, .int .i64 0] 29)).heap[w.heap.size]? = some (.cells #[.slice aL m cL, .int .i64 n] 29 (0, 0))) := Lib.hid (blk_alloc (blk_new w _) _)
  have X1 : Hid (((w.alloc (.cells #[.slice aL m cL, .int .i64 n] 29)).alloc (.cells #[.slice none 0 0, .int .i64 0] 29)).heap[w.heap.size + 1]? = some (.cells #[.slice none 0 0, .int .i64 0] 29 (0, 0))) := Lib.hid (by have := blk_new (w.alloc (.cells #[.slice aL m cL, .int .i64 n] 29)) (.cells #[.slice none 0 0, .int .i64 0] 29); simpa using this)
  have HNO := Lib.hid hno
  have HNA := Lib.hid hna
  have HLI := Lib.hid hL
  have HI := Lib.hid hi
  clear h hno hL hna hi
  go_enter Try.func27, Try.ntmps27
  go_wp2_with fail
  refine (rplace_some B _ _ m n L (H.out.keep B0.out) HI.out HLI.out HNA.out HNO.out).mono ?_
  rintro e w2 ⟨rfl, b2⟩
  have X0_2 := Lib.hid (below_blk b2 X0.out (blk_lt X0.out))
  have X1_2 := Lib.hid (below_blk b2 X1.out (blk_lt X1.out))
  have B2 := Lib.hid (B0.out.trans (b2.mono B0.out.size))
  have HZ2 := b2.size
  simp only [World.size_alloc] at HZ2
  clear b2
  have y0 := blk_cell X0_2.out 0
  have y1 := blk_cell X0_2.out 1
  have s0 := blk_cell X1_2.out 0
  have s1 := blk_cell X1_2.out 1
  have t0 := blk_frozen X1_2.out 0
  have t1 := blk_frozen X1_2.out 1
  go_wp2_with fail
  have YF := blk_set (blk_set X1_2.out 0 (.slice aL m cL)) 1 (.int .i64 n)
  have q0 := blk_cell YF 0
  have q1 := blk_cell YF 1
  have BF := Lib.hid (below1 (below1 B2.out (show w.heap.size ≤ w.heap.size + 1 by omega) B2.out.size 0 (.slice aL m cL)) (show w.heap.size ≤ w.heap.size + 1 by omega) (by simp; exact B2.out.size) 1 (.int .i64 n))
  clear YF
  refine bodyPost_ret (v := .tuple #[.agg #[.slice aL m cL, .int .i64 n], .int .i64 10]) (by simp [results, Try.results27, go_sem, q0, q1]) rfl ⟨rfl, BF.out⟩
end Go.Proofs.Ythjbggdcninckaa
