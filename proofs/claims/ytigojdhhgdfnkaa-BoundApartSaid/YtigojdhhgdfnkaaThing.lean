/- bound's thing: its methods; the sum of some numbers. -/
import Derived.Test.YtigojdhhgdfnkaaConf
import Derived.Test.YtigojdhhgdfnkaaPick
import Derived.Test.YtigojdhhgdfnkaaChainAll
import Derived.Lib.QuietBelow
namespace Go.Proofs.Ytigojdhhgdfnkaa
open Go.RowKit Go.Sort
set_option linter.unusedVariables false

/-- the sum, as it is added up -/
def sumW (l : List Int) : Int := l.foldl (fun a x => wrap64 (a + x)) 0
theorem sumW_succ {l : List Int} {k : Nat} (h : k < l.length) : sumW (l.take (k + 1)) = wrap64 (sumW (l.take k) + l.getD k 0) := by
  unfold sumW
  rw [List.take_succ_eq_append_getElem h, List.foldl_append]
  simp [List.getD, h]
theorem sum_any (B : Nat) (w : World) (v : Value) (l : List Int) (h : LV B w v l) : Calls Try.prog 21 #[v] w fun e w' => e = .returned (.int .i64 (sumW l)) ∧ w = w' := by
  have H := Lib.hid h
  obtain ⟨a, c, rfl, hc, hm, _, _⟩ := h
  unfold maxLen at hm
  go_enter Try.func21, Try.ntmps21
  go_wp2_with fail
  go_loop [3, 8] (fun m i => ∃ k : Nat, k ≤ l.length ∧ i = .int .i64 k ∧ m = .int .i64 (sumW (l.take k))) (fun _ i => l.length - (intOf i).toNat)
  case atStart => exact ⟨0, Nat.zero_le _, rfl, rfl⟩
  case round =>
    obtain ⟨k, hk, rfl, rfl⟩ := hrel
    by_cases hlt : k < l.length
    · obtain ⟨gl, off, c', hv, hx⟩ := H.out.elem hlt
      cases hv
      have hx0 := hx _ (Below.refl _ _)
      clear hx
      have HS := Lib.hid (sumW_succ hlt)
      generalize l.getD k 0 = x at hx0 HS
      generalize sumW (l.take k) = s at HS ⊢
      go_wp2_with fail
      go_round
      case rel => exact ⟨k + 1, hlt, by go_num, by rw [HS.out]⟩
      case measure => simp [intOf]; omega
    · obtain rfl : k = l.length := by omega
      rw [List.take_length]
      go_wp2_with fail
      go_ret
      exact ⟨rfl, rfl⟩
theorem lv_new (w : World) (l : List Int) (h : l.length ≤ 100) : LV 0 (w.alloc (.cells (icells l).toArray 3)) (.slice (some ⟨w.heap.size, 0, none⟩) l.length l.length) l := by
  refine ⟨_, _, rfl, Nat.le_refl _, by unfold maxLen; omega, ⟨nofun, fun _ _ => Nat.zero_le _⟩, .inr ⟨_, 0, rfl, fun i hi => ?_⟩⟩
  rw [blk_cell (blk_new w (.cells (icells l).toArray 3))]
  simp [icells, hi, List.getD]
theorem sum_new2 (w : World) (x0 x1 : Int) : Calls Try.prog 21 #[.slice (some ⟨w.heap.size, 0, none⟩) 2 2] (w.alloc (.cells #[.int .i64 x0, .int .i64 x1] 3)) fun e w' => e = .returned (.int .i64 (sumW [x0, x1])) ∧ (w.alloc (.cells #[.int .i64 x0, .int .i64 x1] 3)) = w' :=
  sum_any 0 _ _ [x0, x1] (lv_new w [x0, x1] (by simp))
theorem sumW2 (x0 x1 : Int) (h0 : 0 ≤ x0) (h1 : 0 ≤ x1) (h : x0 + x1 ≤ 9223372036854775807) : sumW [x0, x1] = x0 + x1 := by
  simp only [sumW, List.foldl_cons, List.foldl_nil]
  rw [Int.zero_add, IntWalk.wrap64_in x0 (by omega)]
  rw [IntWalk.wrap64_in (x0 + x1) (by omega)]
theorem sum_new3 (w : World) (x0 x1 x2 : Int) : Calls Try.prog 21 #[.slice (some ⟨w.heap.size, 0, none⟩) 3 3] (w.alloc (.cells #[.int .i64 x0, .int .i64 x1, .int .i64 x2] 3)) fun e w' => e = .returned (.int .i64 (sumW [x0, x1, x2])) ∧ (w.alloc (.cells #[.int .i64 x0, .int .i64 x1, .int .i64 x2] 3)) = w' :=
  sum_any 0 _ _ [x0, x1, x2] (lv_new w [x0, x1, x2] (by simp))
theorem sumW3 (x0 x1 x2 : Int) (h0 : 0 ≤ x0) (h1 : 0 ≤ x1) (h2 : 0 ≤ x2) (h : x0 + x1 + x2 ≤ 9223372036854775807) : sumW [x0, x1, x2] = x0 + x1 + x2 := by
  simp only [sumW, List.foldl_cons, List.foldl_nil]
  rw [Int.zero_add, IntWalk.wrap64_in x0 (by omega)]
  rw [IntWalk.wrap64_in (x0 + x1) (by omega)]
  rw [IntWalk.wrap64_in (x0 + x1 + x2) (by omega)]
theorem sum_new4 (w : World) (x0 x1 x2 x3 : Int) : Calls Try.prog 21 #[.slice (some ⟨w.heap.size, 0, none⟩) 4 4] (w.alloc (.cells #[.int .i64 x0, .int .i64 x1, .int .i64 x2, .int .i64 x3] 3)) fun e w' => e = .returned (.int .i64 (sumW [x0, x1, x2, x3])) ∧ (w.alloc (.cells #[.int .i64 x0, .int .i64 x1, .int .i64 x2, .int .i64 x3] 3)) = w' :=
  sum_any 0 _ _ [x0, x1, x2, x3] (lv_new w [x0, x1, x2, x3] (by simp))
theorem sumW4 (x0 x1 x2 x3 : Int) (h0 : 0 ≤ x0) (h1 : 0 ≤ x1) (h2 : 0 ≤ x2) (h3 : 0 ≤ x3) (h : x0 + x1 + x2 + x3 ≤ 9223372036854775807) : sumW [x0, x1, x2, x3] = x0 + x1 + x2 + x3 := by
  simp only [sumW, List.foldl_cons, List.foldl_nil]
  rw [Int.zero_add, IntWalk.wrap64_in x0 (by omega)]
  rw [IntWalk.wrap64_in (x0 + x1) (by omega)]
  rw [IntWalk.wrap64_in (x0 + x1 + x2) (by omega)]
  rw [IntWalk.wrap64_in (x0 + x1 + x2 + x3) (by omega)]
theorem sum_new6 (w : World) (x0 x1 x2 x3 x4 x5 : Int) : Calls Try.prog 21 #[.slice (some ⟨w.heap.size, 0, none⟩) 6 6] (w.alloc (.cells #[.int .i64 x0, .int .i64 x1, .int .i64 x2, .int .i64 x3, .int .i64 x4, .int .i64 x5] 3)) fun e w' => e = .returned (.int .i64 (sumW [x0, x1, x2, x3, x4, x5])) ∧ (w.alloc (.cells #[.int .i64 x0, .int .i64 x1, .int .i64 x2, .int .i64 x3, .int .i64 x4, .int .i64 x5] 3)) = w' :=
  sum_any 0 _ _ [x0, x1, x2, x3, x4, x5] (lv_new w [x0, x1, x2, x3, x4, x5] (by simp))
theorem sumW6 (x0 x1 x2 x3 x4 x5 : Int) (h0 : 0 ≤ x0) (h1 : 0 ≤ x1) (h2 : 0 ≤ x2) (h3 : 0 ≤ x3) (h4 : 0 ≤ x4) (h5 : 0 ≤ x5) (h : x0 + x1 + x2 + x3 + x4 + x5 ≤ 9223372036854775807) : sumW [x0, x1, x2, x3, x4, x5] = x0 + x1 + x2 + x3 + x4 + x5 := by
  simp only [sumW, List.foldl_cons, List.foldl_nil]
  rw [Int.zero_add, IntWalk.wrap64_in x0 (by omega)]
  rw [IntWalk.wrap64_in (x0 + x1) (by omega)]
  rw [IntWalk.wrap64_in (x0 + x1 + x2) (by omega)]
  rw [IntWalk.wrap64_in (x0 + x1 + x2 + x3) (by omega)]
  rw [IntWalk.wrap64_in (x0 + x1 + x2 + x3 + x4) (by omega)]
  rw [IntWalk.wrap64_in (x0 + x1 + x2 + x3 + x4 + x5) (by omega)]

/-- a thing's value: its layout, and its size -/
def TH (w : World) (v : Value) (c : Cf) (n : Int) : Prop := ∃ ac cc ak ck, v = .agg #[.int .i64 c.size, .int .i64 c.pages, .slice ac c.classes.length cc, .slice ak c.keep.length ck, .int .i64 c.step, .int .i64 c.slots, .int .i64 c.gens, .int .i64 c.most, .int .i64 n] ∧ LV 0 w (.slice ac c.classes.length cc) c.classes ∧ LV 0 w (.slice ak c.keep.length ck) c.keep
theorem TH.below {w w' : World} {v : Value} {c : Cf} {n : Int} (h : TH w v c n) (k : Below w.heap.size w w') : TH w' v c n := by
  obtain ⟨ac, cc, ak, ck, e, h1, h2⟩ := h
  exact ⟨ac, cc, ak, ck, e, h1.keep k, h2.keep k⟩
theorem is_any (w : World) (v : Value) (c : Cf) (n : Int) (h : TH w v c n) : Calls Try.prog 34 #[v] w fun e w' => e = .returned (.bool (decide (1 ≤ n ∧ n ≤ c.most))) ∧ Below w.heap.size w w' := by
  obtain ⟨size, pages, classes, keep, step, slots, gens, most⟩ := c
  obtain ⟨ac, cc, ak, ck, rfl, h1, h2⟩ := h
  simp only at h1 h2 ⊢
  have hb : Below w.heap.size w (w.alloc (.cells #[.int .i64 size, .int .i64 pages, .slice ac classes.length cc, .slice ak keep.length ck, .int .i64 step, .int .i64 slots, .int .i64 gens, .int .i64 most, .int .i64 n] 35)) := (Below.refl _ _).alloc (Nat.le_refl _) _
  have HB := Lib.hid hb
  clear hb h1 h2
  by_cases g1 : 1 ≤ n
  · by_cases g2 : n ≤ most
    · rw [decide_eq_true (show 1 ≤ n ∧ n ≤ most from ⟨g1, g2⟩)]
      go_enter Try.func34, Try.ntmps34
      go_wp2_with fail
      go_ret
      exact ⟨rfl, HB.out⟩
    · rw [decide_eq_false (show ¬ (1 ≤ n ∧ n ≤ most) from fun h => g2 h.2)]
      go_enter Try.func34, Try.ntmps34
      go_wp2_with fail
      go_ret
      exact ⟨rfl, HB.out⟩
  · rw [decide_eq_false (show ¬ (1 ≤ n ∧ n ≤ most) from fun h => g1 h.1)]
    go_enter Try.func34, Try.ntmps34
    go_wp2_with fail
    go_ret
    exact ⟨rfl, HB.out⟩
theorem tsmall_any (w : World) (v : Value) (c : Cf) (n : Int) (h : TH w v c n) : Calls Try.prog 35 #[v] w fun e w' => e = .returned (.bool (decide (n ≤ lastC c.classes))) ∧ Below w.heap.size w w' := by
  obtain ⟨size, pages, classes, keep, step, slots, gens, most⟩ := c
  obtain ⟨ac, cc, ak, ck, rfl, h1, h2⟩ := h
  simp only at h1 h2 ⊢
  have hb : Below w.heap.size w (w.alloc (.cells #[.int .i64 size, .int .i64 pages, .slice ac classes.length cc, .slice ak keep.length ck, .int .i64 step, .int .i64 slots, .int .i64 gens, .int .i64 most, .int .i64 n] 35)) := (Below.refl _ _).alloc (Nat.le_refl _) _
  have HB := Lib.hid hb
  have HC : Hid (CV w (.agg #[.int .i64 size, .int .i64 pages, .slice ac classes.length cc, .slice ak keep.length ck, .int .i64 step, .int .i64 slots, .int .i64 gens, .int .i64 most]) ⟨size, pages, classes, keep, step, slots, gens, most⟩) := Lib.hid ⟨ac, cc, ak, ck, rfl, h1, h2⟩
  have X := Lib.hid (blk_new w (.cells #[.int .i64 size, .int .i64 pages, .slice ac classes.length cc, .slice ak keep.length ck, .int .i64 step, .int .i64 slots, .int .i64 gens, .int .i64 most, .int .i64 n] 35))
  have q0 := cell_regrown (blk_cell X.out 0)
  have q1 := cell_regrown (blk_cell X.out 1)
  have q2 := cell_regrown (blk_cell X.out 2)
  have q3 := cell_regrown (blk_cell X.out 3)
  have q4 := cell_regrown (blk_cell X.out 4)
  have q5 := cell_regrown (blk_cell X.out 5)
  have q6 := cell_regrown (blk_cell X.out 6)
  have q7 := cell_regrown (blk_cell X.out 7)
  have q8 := cell_regrown (blk_cell X.out 8)
  have cQ : ∀ (d : Nat) (os : Array Obj), Calls Try.prog 44 #[.agg #[.int .i64 size, .int .i64 pages, .slice ac classes.length cc, .slice ak keep.length ck, .int .i64 step, .int .i64 slots, .int .i64 gens, .int .i64 most]] (grow (redrawn (w.alloc (.cells #[.int .i64 size, .int .i64 pages, .slice ac classes.length cc, .slice ak keep.length ck, .int .i64 step, .int .i64 slots, .int .i64 gens, .int .i64 most, .int .i64 n] 35)) d) os) fun e w'' => e = .returned (.int .i64 (lastC classes)) ∧ ∃ p : Regrown, w'' = grow (redrawn (w.alloc (.cells #[.int .i64 size, .int .i64 pages, .slice ac classes.length cc, .slice ak keep.length ck, .int .i64 step, .int .i64 slots, .int .i64 gens, .int .i64 most, .int .i64 n] 35)) p.d) p.os := fun d os =>
    Calls.regrown_of (small_any _ _ ⟨size, pages, classes, keep, step, slots, gens, most⟩ (HC.out.below (HB.out.trans ((below_regrown _ d os).mono HB.out.size))))
  have HQ := Lib.hid cQ
  clear cQ hb h1 h2
  go_enter Try.func35, Try.ntmps35
  go_wp2_with fail
  refine wp_region_quiet_below (by kernel_rfl) (by kernel_rfl) ?_
  repeat (first | go_big_quiet_step (exact HQ.out _ _) | quiet_step (exact HQ.out _ _))
  refine wpQuiet_nil ?_
  intro _ hw'
  obtain ⟨⟨dq, osq⟩, hw''⟩ := hw'
  subst hw''
  have B5 := HB.out.trans ((below_regrown _ dq osq).mono HB.out.size)
  go_wp2_with fail
  go_ret
  exact ⟨rfl, B5⟩

/-- a small thing's block -/
def blk (c : Cf) (n : Int) : Int := c.classes.getD (pickP c.classes n).toNat 0
theorem idxP_some {p : Int → Bool} {l : List Int} {k : Nat} (hk : k < l.length) (hp : p (l.getD k 0) = true) : ∃ i : Nat, idxP p l = i ∧ i < l.length := by
  rcases idxP_idx p l with ⟨h1, h2⟩ | ⟨i, h1, h2, _⟩
  · have := h2 k hk
    rw [hp] at this
    cases this
  · exact ⟨i, h1, h2⟩
theorem pickP_some {l : List Int} {n : Int} (h1 : 1 ≤ n) (h2 : n ≤ lastC l) (h3 : 0 < l.length) : ∃ i : Nat, pickP l n = i ∧ i < l.length := by
  have := idxP_some (p := geP n) (l := l) (k := l.length - 1) (by omega) (by unfold lastC at h2; simpa [geP] using h2)
  unfold pickP
  rw [if_neg (by omega)]
  exact this
theorem block_any (w : World) (v : Value) (c : Cf) (n : Int) (h : TH w v c n) (g1 : 1 ≤ n) (g2 : n ≤ lastC c.classes) (g3 : 0 < c.classes.length) : Calls Try.prog 22 #[v] w fun e w' => e = .returned (.int .i64 (blk c n)) ∧ Below w.heap.size w w' := by
  obtain ⟨i, hi, hil⟩ := pickP_some g1 g2 g3
  rw [show blk c n = c.classes.getD i 0 from by unfold blk; rw [hi]; rfl]
  clear g1 g2 g3
  obtain ⟨size, pages, classes, keep, step, slots, gens, most⟩ := c
  obtain ⟨ac, cc, ak, ck, rfl, h1, h2⟩ := h
  simp only at h1 h2 hi hil ⊢
  have hb : Below w.heap.size w (w.alloc (.cells #[.int .i64 size, .int .i64 pages, .slice ac classes.length cc, .slice ak keep.length ck, .int .i64 step, .int .i64 slots, .int .i64 gens, .int .i64 most, .int .i64 n] 35)) := (Below.refl _ _).alloc (Nat.le_refl _) _
  have HB := Lib.hid hb
  have H1 := Lib.hid h1
  have hcap := h1.caps
  obtain ⟨gl, off, c', hv, hx⟩ := h1.elem hil
  cases hv
  have z0 := cell_regrown (hx _ hb)
  have X := Lib.hid (blk_new w (.cells #[.int .i64 size, .int .i64 pages, .slice (some ⟨gl, off, none⟩) classes.length cc, .slice ak keep.length ck, .int .i64 step, .int .i64 slots, .int .i64 gens, .int .i64 most, .int .i64 n] 35))
  have q0 := cell_regrown (blk_cell X.out 0)
  have q1 := cell_regrown (blk_cell X.out 1)
  have q2 := cell_regrown (blk_cell X.out 2)
  have q3 := cell_regrown (blk_cell X.out 3)
  have q4 := cell_regrown (blk_cell X.out 4)
  have q5 := cell_regrown (blk_cell X.out 5)
  have q6 := cell_regrown (blk_cell X.out 6)
  have q7 := cell_regrown (blk_cell X.out 7)
  have q8 := cell_regrown (blk_cell X.out 8)
  have cQ : ∀ (d : Nat) (os : Array Obj), Calls Try.prog 36 #[.slice (some ⟨gl, off, none⟩) classes.length cc, .int .i64 n] (grow (redrawn (w.alloc (.cells #[.int .i64 size, .int .i64 pages, .slice (some ⟨gl, off, none⟩) classes.length cc, .slice ak keep.length ck, .int .i64 step, .int .i64 slots, .int .i64 gens, .int .i64 most, .int .i64 n] 35)) d) os) fun e w'' => e = .returned (.int .i64 (i : Int)) ∧ ∃ p : Regrown, w'' = grow (redrawn (w.alloc (.cells #[.int .i64 size, .int .i64 pages, .slice (some ⟨gl, off, none⟩) classes.length cc, .slice ak keep.length ck, .int .i64 step, .int .i64 slots, .int .i64 gens, .int .i64 most, .int .i64 n] 35)) p.d) p.os := fun d os => by
    rw [← hi]
    exact Calls.regrown_of (pick_any 0 _ _ classes n (H1.out.keep (HB.out.trans ((below_regrown _ d os).mono HB.out.size))))
  have HQ := Lib.hid cQ
  clear cQ hb h1 h2 hx hi
  generalize classes.getD i 0 = x at z0 ⊢
  go_enter Try.func22, Try.ntmps22
  go_wp2_with fail
  refine wp_region_quiet_below (by kernel_rfl) (by kernel_rfl) ?_
  repeat (first | go_big_quiet_step (exact HQ.out _ _) | quiet_step (exact HQ.out _ _))
  refine wpQuiet_nil ?_
  intro _ hw'
  obtain ⟨⟨dq, osq⟩, hw''⟩ := hw'
  subst hw''
  have B5 := HB.out.trans ((below_regrown _ dq osq).mono HB.out.size)
  go_wp2_with fail
  go_ret
  exact ⟨rfl, B5⟩
theorem tall_any (w : World) (v : Value) (c : Cf) (n : Int) (h : TH w v c n) (hn : n ≤ 9223372036854775807) : Calls Try.prog 24 #[v] w fun e w' => e = .returned (.int .i64 (allS n c.size)) ∧ Below w.heap.size w w' := by
  obtain ⟨size, pages, classes, keep, step, slots, gens, most⟩ := c
  obtain ⟨ac, cc, ak, ck, rfl, h1, h2⟩ := h
  simp only at h1 h2 ⊢
  have hb : Below w.heap.size w (w.alloc (.cells #[.int .i64 size, .int .i64 pages, .slice ac classes.length cc, .slice ak keep.length ck, .int .i64 step, .int .i64 slots, .int .i64 gens, .int .i64 most, .int .i64 n] 35)) := (Below.refl _ _).alloc (Nat.le_refl _) _
  have HB := Lib.hid hb
  clear hb h1 h2
  go_enter Try.func24, Try.ntmps24
  go_wp2_with fail
  refine (all_any _ n size hn).mono ?_
  rintro e w1 ⟨rfl, rfl⟩
  go_wp2_with fail
  go_ret
  exact ⟨rfl, HB.out⟩
theorem tdata_any (w : World) (v : Value) (c : Cf) (n : Int) (h : TH w v c n) (hn : n ≤ 9223372036854775807) : Calls Try.prog 25 #[v] w fun e w' => e = .returned (.int .i64 (manyS n c.size)) ∧ Below w.heap.size w w' := by
  obtain ⟨size, pages, classes, keep, step, slots, gens, most⟩ := c
  obtain ⟨ac, cc, ak, ck, rfl, h1, h2⟩ := h
  simp only at h1 h2 ⊢
  have hb : Below w.heap.size w (w.alloc (.cells #[.int .i64 size, .int .i64 pages, .slice ac classes.length cc, .slice ak keep.length ck, .int .i64 step, .int .i64 slots, .int .i64 gens, .int .i64 most, .int .i64 n] 35)) := (Below.refl _ _).alloc (Nat.le_refl _) _
  have HB := Lib.hid hb
  clear hb h1 h2
  go_enter Try.func25, Try.ntmps25
  go_wp2_with fail
  refine (data_any _ n size hn).mono ?_
  rintro e w1 ⟨rfl, rfl⟩
  go_wp2_with fail
  go_ret
  exact ⟨rfl, HB.out⟩
end Go.Proofs.Ytigojdhhgdfnkaa
