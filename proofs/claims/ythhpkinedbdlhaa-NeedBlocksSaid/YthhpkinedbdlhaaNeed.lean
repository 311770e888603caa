/- need's sums: a sum over a list by a closure; live things, blocks, in plain terms. -/
import Derived.Test.YthhpkinedbdlhaaMay03
import Derived.Test.YthhpkinedbdlhaaPick
import Derived.Test.YthhpkinedbdlhaaChainAll
import Derived.Test.YthhpkinedbdlhaaRMany
import Derived.Test.YthhpkinedbdlhaaRWhole
namespace Go.Proofs.Ythhpkinedbdlhaa
open Go.RowKit Go.Sort
set_option linter.unusedVariables false

abbrev ptr (g : Nat) : Value := .pointer (some ⟨g, 0, none⟩)
def sumI (f : Nat → Int) : Nat → Int
  | 0 => 0
  | k + 1 => sumI f k + f k
theorem sumI_bounds {f : Nat → Int} {M : Int} {n : Nat} (h : ∀ k, k < n → 0 ≤ f k ∧ f k ≤ M) : ∀ k, k ≤ n → 0 ≤ sumI f k ∧ sumI f k ≤ M * k
  | 0, _ => by simp [sumI]
  | k + 1, hk => by
    have ih := sumI_bounds h k (by omega)
    have h1 := h k (by omega)
    simp only [sumI]
    rw [show M * ((k + 1 : Nat) : Int) = M * k + M from by rw [Int.natCast_add, Int.mul_add]; simp]
    omega
theorem sumI_congr {f g : Nat → Int} : ∀ n, (∀ k, k < n → f k = g k) → sumI f n = sumI g n
  | 0, _ => rfl
  | k + 1, h => by simp only [sumI]; rw [sumI_congr k (fun j hj => h j (by omega)), h k (by omega)]
theorem sumI_mono {f : Nat → Int} {n : Nat} (h : ∀ k, k < n → 0 ≤ f k) {i j : Nat} (hij : i ≤ j) (hj : j ≤ n) : sumI f i ≤ sumI f j := by
  induction j with
  | zero => have : i = 0 := by omega
            subst this; exact Int.le_refl _
  | succ j ih =>
    by_cases e : i = j + 1
    · subst e; exact Int.le_refl _
    · have h1 := ih (by omega) (by omega)
      have h2 := h j (by omega)
      simp only [sumI]
      omega

def okN (c : Cf) (n : Int) : Prop := 1 ≤ n ∧ n ≤ c.most
instance (c : Cf) (n : Int) : Decidable (okN c n) := by unfold okN; infer_instance
def badF (c : Cf) (n : Int) : Int := if okN c n then 0 else 1
def liveF (c : Cf) (k n : Int) : Int := if okN c n ∧ 0 ≤ k ∧ pickP c.classes n = k then 1 else 0
def largeF (c : Cf) (n : Int) : Int := if n ≤ lastC c.classes then 0 else allS n c.size
def blocksS (c : Cf) (k : Int) : Int := if k < 0 ∨ (c.classes.length : Int) ≤ k then 0 else wholeS c.size (c.classes.getD k.toNat 0)
def badS (c : Cf) (l : List Int) : Int := sumI (fun i => badF c (l.getD i 0)) l.length
def liveS (c : Cf) (l : List Int) (k : Int) : Int := sumI (fun i => liveF c k (l.getD i 0)) l.length
def largeS (c : Cf) (l : List Int) : Int := sumI (fun i => largeF c (l.getD i 0)) l.length
def smallS (c : Cf) (l : List Int) : Int := sumI (fun k => manyS (liveS c l k) (blocksS c k)) c.classes.length

theorem sum1 (B : Nat) (w : World) (v : Value) (l : List Int) (p0 : Value) (f : Nat → Int) (h : LV B w v l)
    (hf : ∀ k, k < l.length → ∀ W, Below w.heap.size w W → Calls Try.prog 24 #[.int .i64 k, .int .i64 (l.getD k 0), p0] W fun e w' => e = .returned (.int .i64 (f k)) ∧ Below W.heap.size W w')
    (hb : ∀ k, k ≤ l.length → -9223372036854775808 ≤ sumI f k ∧ sumI f k ≤ 9223372036854775807) :
    Calls Try.prog 23 #[v, .func (.func 24) #[] #[p0]] w fun e w' => e = .returned (.int .i64 (sumI f l.length)) ∧ Below w.heap.size w w' := by
  have H := Lib.hid h
  have HF := Lib.hid hf
  have HB := Lib.hid hb
  obtain ⟨a, c, rfl, hc, hm, _, _⟩ := h
  unfold maxLen at hm
  clear hf hb
  go_enter Try.func23, Try.ntmps23
  go_wp2_with fail
  go_loopw [5, 10] (fun m i wr => ∃ k : Nat, k ≤ l.length ∧ i = .int .i64 k ∧ m = .int .i64 (sumI f k) ∧ Below w.heap.size w wr) (fun _ i _ => l.length - (intOf i).toNat)
  case atStart => exact ⟨0, Nat.zero_le _, rfl, rfl, Below.refl _ _⟩
  case round =>
    obtain ⟨k, hk, rfl, rfl, br⟩ := hrel
    by_cases hlt : k < l.length
    · obtain ⟨gl, off, c', hv, hx⟩ := H.out.elem hlt
      cases hv
      have hx0 := hx _ br
      have HC := Lib.hid (HF.out k hlt wr br)
      have HS := Lib.hid (show sumI f (k + 1) = sumI f k + f k from rfl)
      have hbk := HB.out (k + 1) hlt
      rw [HS.out] at hbk
      generalize l.getD k 0 = x at hx0 HC
      generalize sumI f k = s at HS hbk ⊢
      generalize f k = y at HS hbk HC
      clear hx
      go_wp2_with fail
      refine HC.out.mono ?_
      rintro e w3 ⟨rfl, b3⟩
      have B3 := Lib.hid (br.trans (b3.mono br.size))
      clear b3
      go_wp2_with fail
      go_roundw
      case rel => exact ⟨k + 1, hlt, by go_num, by rw [HS.out], B3.out⟩
      case measure => simp [intOf]; omega
    · obtain rfl : k = l.length := by omega
      go_wp2_with fail
      go_ret
      exact ⟨rfl, br⟩
theorem sum2 (B : Nat) (w : World) (v : Value) (l : List Int) (p0 p1 : Value) (f : Nat → Int) (h : LV B w v l)
    (hf : ∀ k, k < l.length → ∀ W, Below w.heap.size w W → Calls Try.prog 25 #[.int .i64 k, .int .i64 (l.getD k 0), p0, p1] W fun e w' => e = .returned (.int .i64 (f k)) ∧ Below W.heap.size W w')
    (hb : ∀ k, k ≤ l.length → -9223372036854775808 ≤ sumI f k ∧ sumI f k ≤ 9223372036854775807) :
    Calls Try.prog 23 #[v, .func (.func 25) #[] #[p0, p1]] w fun e w' => e = .returned (.int .i64 (sumI f l.length)) ∧ Below w.heap.size w w' := by
  have H := Lib.hid h
  have HF := Lib.hid hf
  have HB := Lib.hid hb
  obtain ⟨a, c, rfl, hc, hm, _, _⟩ := h
  unfold maxLen at hm
  clear hf hb
  go_enter Try.func23, Try.ntmps23
  go_wp2_with fail
  go_loopw [5, 10] (fun m i wr => ∃ k : Nat, k ≤ l.length ∧ i = .int .i64 k ∧ m = .int .i64 (sumI f k) ∧ Below w.heap.size w wr) (fun _ i _ => l.length - (intOf i).toNat)
  case atStart => exact ⟨0, Nat.zero_le _, rfl, rfl, Below.refl _ _⟩
  case round =>
    obtain ⟨k, hk, rfl, rfl, br⟩ := hrel
    by_cases hlt : k < l.length
    · obtain ⟨gl, off, c', hv, hx⟩ := H.out.elem hlt
      cases hv
      have hx0 := hx _ br
      have HC := Lib.hid (HF.out k hlt wr br)
      have HS := Lib.hid (show sumI f (k + 1) = sumI f k + f k from rfl)
      have hbk := HB.out (k + 1) hlt
      rw [HS.out] at hbk
      generalize l.getD k 0 = x at hx0 HC
      generalize sumI f k = s at HS hbk ⊢
      generalize f k = y at HS hbk HC
      clear hx
      go_wp2_with fail
      refine HC.out.mono ?_
      rintro e w3 ⟨rfl, b3⟩
      have B3 := Lib.hid (br.trans (b3.mono br.size))
      clear b3
      go_wp2_with fail
      go_roundw
      case rel => exact ⟨k + 1, hlt, by go_num, by rw [HS.out], B3.out⟩
      case measure => simp [intOf]; omega
    · obtain rfl : k = l.length := by omega
      go_wp2_with fail
      go_ret
      exact ⟨rfl, br⟩
theorem sum3 (B : Nat) (w : World) (v : Value) (l : List Int) (p0 : Value) (f : Nat → Int) (h : LV B w v l)
    (hf : ∀ k, k < l.length → ∀ W, Below w.heap.size w W → Calls Try.prog 28 #[.int .i64 k, .int .i64 (l.getD k 0), p0] W fun e w' => e = .returned (.int .i64 (f k)) ∧ Below W.heap.size W w')
    (hb : ∀ k, k ≤ l.length → -9223372036854775808 ≤ sumI f k ∧ sumI f k ≤ 9223372036854775807) :
    Calls Try.prog 23 #[v, .func (.func 28) #[] #[p0]] w fun e w' => e = .returned (.int .i64 (sumI f l.length)) ∧ Below w.heap.size w w' := by
  have H := Lib.hid h
  have HF := Lib.hid hf
  have HB := Lib.hid hb
  obtain ⟨a, c, rfl, hc, hm, _, _⟩ := h
  unfold maxLen at hm
  clear hf hb
  go_enter Try.func23, Try.ntmps23
  go_wp2_with fail
  go_loopw [5, 10] (fun m i wr => ∃ k : Nat, k ≤ l.length ∧ i = .int .i64 k ∧ m = .int .i64 (sumI f k) ∧ Below w.heap.size w wr) (fun _ i _ => l.length - (intOf i).toNat)
  case atStart => exact ⟨0, Nat.zero_le _, rfl, rfl, Below.refl _ _⟩
  case round =>
    obtain ⟨k, hk, rfl, rfl, br⟩ := hrel
    by_cases hlt : k < l.length
    · obtain ⟨gl, off, c', hv, hx⟩ := H.out.elem hlt
      cases hv
      have hx0 := hx _ br
      have HC := Lib.hid (HF.out k hlt wr br)
      have HS := Lib.hid (show sumI f (k + 1) = sumI f k + f k from rfl)
      have hbk := HB.out (k + 1) hlt
      rw [HS.out] at hbk
      generalize l.getD k 0 = x at hx0 HC
      generalize sumI f k = s at HS hbk ⊢
      generalize f k = y at HS hbk HC
      clear hx
      go_wp2_with fail
      refine HC.out.mono ?_
      rintro e w3 ⟨rfl, b3⟩
      have B3 := Lib.hid (br.trans (b3.mono br.size))
      clear b3
      go_wp2_with fail
      go_roundw
      case rel => exact ⟨k + 1, hlt, by go_num, by rw [HS.out], B3.out⟩
      case measure => simp [intOf]; omega
    · obtain rfl : k = l.length := by omega
      go_wp2_with fail
      go_ret
      exact ⟨rfl, br⟩
theorem sumL (B : Nat) (w : World) (v : Value) (l : List Int) (p0 p1 : Value) (f : Nat → Int) (h : LV B w v l)
    (hf : ∀ k, k < l.length → ∀ W, Below w.heap.size w W → Calls Try.prog 34 #[.int .i64 k, .int .i64 (l.getD k 0), p0, p1] W fun e w' => e = .returned (.int .i64 (f k)) ∧ Below W.heap.size W w')
    (hb : ∀ k, k ≤ l.length → -9223372036854775808 ≤ sumI f k ∧ sumI f k ≤ 9223372036854775807) :
    Calls Try.prog 23 #[v, .func (.func 34) #[] #[p0, p1]] w fun e w' => e = .returned (.int .i64 (sumI f l.length)) ∧ Below w.heap.size w w' := by
  have H := Lib.hid h
  have HF := Lib.hid hf
  have HB := Lib.hid hb
  obtain ⟨a, c, rfl, hc, hm, _, _⟩ := h
  unfold maxLen at hm
  clear hf hb
  go_enter Try.func23, Try.ntmps23
  go_wp2_with fail
  go_loopw [5, 10] (fun m i wr => ∃ k : Nat, k ≤ l.length ∧ i = .int .i64 k ∧ m = .int .i64 (sumI f k) ∧ Below w.heap.size w wr) (fun _ i _ => l.length - (intOf i).toNat)
  case atStart => exact ⟨0, Nat.zero_le _, rfl, rfl, Below.refl _ _⟩
  case round =>
    obtain ⟨k, hk, rfl, rfl, br⟩ := hrel
    by_cases hlt : k < l.length
    · obtain ⟨gl, off, c', hv, hx⟩ := H.out.elem hlt
      cases hv
      have hx0 := hx _ br
      have HC := Lib.hid (HF.out k hlt wr br)
      have HS := Lib.hid (show sumI f (k + 1) = sumI f k + f k from rfl)
      have hbk := HB.out (k + 1) hlt
      rw [HS.out] at hbk
      generalize l.getD k 0 = x at hx0 HC
      generalize sumI f k = s at HS hbk ⊢
      generalize f k = y at HS hbk HC
      clear hx
      go_wp2_with fail
      refine HC.out.mono ?_
      rintro e w3 ⟨rfl, b3⟩
      have B3 := Lib.hid (br.trans (b3.mono br.size))
      clear b3
      go_wp2_with fail
      go_roundw
      case rel => exact ⟨k + 1, hlt, by go_num, by rw [HS.out], B3.out⟩
      case measure => simp [intOf]; omega
    · obtain rfl : k = l.length := by omega
      go_wp2_with fail
      go_ret
      exact ⟨rfl, br⟩
theorem blocks_any (w : World) (v : Value) (c : Cf) (k : Int) (h : CV w v c) (hs : c.size ≤ 9223372036854775807) : Calls Try.prog 27 #[v, .int .i64 k] w fun e w' => e = .returned (.int .i64 (blocksS c k)) ∧ Below w.heap.size w w' := by
  have H := Lib.hid h
  obtain ⟨ac, cc, ak, ck, rfl, h1, h2⟩ := h
  have B0 := Lib.hid ((Below.refl w.heap.size w).alloc (Nat.le_refl _) (.cells #[.int .i64 c.size, .int .i64 c.pages, .slice ac c.classes.length cc, .slice ak c.keep.length ck, .int .i64 c.step, .int .i64 c.slots, .int .i64 c.gens, .int .i64 c.most] 24))
  have X0 := Lib.hid (blk_new w (.cells #[.int .i64 c.size, .int .i64 c.pages, .slice ac c.classes.length cc, .slice ak c.keep.length ck, .int .i64 c.step, .int .i64 c.slots, .int .i64 c.gens, .int .i64 c.most] 24))
  have hcap := h1.caps
  by_cases g1 : k < 0
  · rw [show blocksS c k = 0 from if_pos (.inl g1)]
    clear h1 h2
    go_enter Try.func27, Try.ntmps27
    go_wp2_with fail
    go_ret
    exact ⟨rfl, B0.out⟩
  · by_cases g2 : (c.classes.length : Int) ≤ k
    · rw [show blocksS c k = 0 from if_pos (.inr g2)]
      clear h1 h2
      go_enter Try.func27, Try.ntmps27
      go_wp2_with fail
      go_ret
      exact ⟨rfl, B0.out⟩
    · obtain ⟨i, rfl⟩ : ∃ i : Nat, k = i := ⟨k.toNat, by omega⟩
      have hil : i < c.classes.length := by omega
      rw [show blocksS c i = wholeS c.size (c.classes.getD i 0) from if_neg (by omega)]
      obtain ⟨gl, off, c', hv, hx⟩ := h1.elem hil
      cases hv
      have z0 := cell_regrown (hx _ B0.out)
      have q0 := cell_regrown (blk_cell X0.out 0)
      have q1 := cell_regrown (blk_cell X0.out 1)
      have q2 := cell_regrown (blk_cell X0.out 2)
      have q3 := cell_regrown (blk_cell X0.out 3)
      have q4 := cell_regrown (blk_cell X0.out 4)
      have q5 := cell_regrown (blk_cell X0.out 5)
      have q6 := cell_regrown (blk_cell X0.out 6)
      have q7 := cell_regrown (blk_cell X0.out 7)
      have cHQ : ∀ (d : Nat) (os : Array Obj), Calls Try.prog 40 #[.int .i64 c.size, .int .i64 (c.classes.getD i 0)] (grow (redrawn (w.alloc (.cells #[.int .i64 c.size, .int .i64 c.pages, .slice (some ⟨gl, off, none⟩) c.classes.length cc, .slice ak c.keep.length ck, .int .i64 c.step, .int .i64 c.slots, .int .i64 c.gens, .int .i64 c.most] 24)) d) os) fun e w'' => e = .returned (.int .i64 (wholeS c.size (c.classes.getD i 0))) ∧ ∃ p : Regrown, w'' = grow (redrawn (w.alloc (.cells #[.int .i64 c.size, .int .i64 c.pages, .slice (some ⟨gl, off, none⟩) c.classes.length cc, .slice ak c.keep.length ck, .int .i64 c.step, .int .i64 c.slots, .int .i64 c.gens, .int .i64 c.most] 24)) p.d) p.os := fun d os =>
        Calls.regrown_of (calls_below (whole_any _ c.size (c.classes.getD i 0) hs))
      have HQ := Lib.hid cHQ
      clear cHQ
      clear h1 h2 hx g1 g2
      generalize c.classes.getD i 0 = x at z0 HQ ⊢
      go_enter Try.func27, Try.ntmps27
      go_wp2_with fail
      refine wp_region_quiet_below (by kernel_rfl) (by kernel_rfl) ?_
      repeat (first | go_big_quiet_step (first | exact HQ.out _ _) | quiet_step (first | exact HQ.out _ _))
      refine wpQuiet_nil ?_
      intro _ hw'
      obtain ⟨⟨dq, osq⟩, hw''⟩ := hw'
      subst hw''
      have B5 := B0.out.trans ((below_regrown _ dq osq).mono B0.out.size)
      go_wp2_with fail
      go_ret
      exact ⟨rfl, B5⟩
theorem rblocks_any (w : World) (v : Value) (c : Cf) (k : Int) (h : CV w v c) (hs : c.size ≤ 9223372036854775807) : Calls Try.prog 19 #[v, .int .i64 k] w fun e w' => e = .returned (.int .i64 (blocksS c k)) ∧ Below w.heap.size w w' := by
  have H := Lib.hid h
  obtain ⟨ac, cc, ak, ck, rfl, h1, h2⟩ := h
  have B0 := Lib.hid ((Below.refl w.heap.size w).alloc (Nat.le_refl _) (.cells #[.int .i64 c.size, .int .i64 c.pages, .slice ac c.classes.length cc, .slice ak c.keep.length ck, .int .i64 c.step, .int .i64 c.slots, .int .i64 c.gens, .int .i64 c.most] 24))
  have X0 := Lib.hid (blk_new w (.cells #[.int .i64 c.size, .int .i64 c.pages, .slice ac c.classes.length cc, .slice ak c.keep.length ck, .int .i64 c.step, .int .i64 c.slots, .int .i64 c.gens, .int .i64 c.most] 24))
  have hcap := h1.caps
  by_cases g1 : k < 0
  · rw [show blocksS c k = 0 from if_pos (.inl g1)]
    clear h1 h2
    go_enter Try.func19, Try.ntmps19
    go_wp2_with fail
    go_ret
    exact ⟨rfl, B0.out⟩
  · by_cases g2 : (c.classes.length : Int) ≤ k
    · rw [show blocksS c k = 0 from if_pos (.inr g2)]
      clear h1 h2
      go_enter Try.func19, Try.ntmps19
      go_wp2_with fail
      go_ret
      exact ⟨rfl, B0.out⟩
    · obtain ⟨i, rfl⟩ : ∃ i : Nat, k = i := ⟨k.toNat, by omega⟩
      have hil : i < c.classes.length := by omega
      rw [show blocksS c i = wholeS c.size (c.classes.getD i 0) from if_neg (by omega)]
      obtain ⟨gl, off, c', hv, hx⟩ := h1.elem hil
      cases hv
      have z0 := cell_regrown (hx _ B0.out)
      have q0 := cell_regrown (blk_cell X0.out 0)
      have q1 := cell_regrown (blk_cell X0.out 1)
      have q2 := cell_regrown (blk_cell X0.out 2)
      have q3 := cell_regrown (blk_cell X0.out 3)
      have q4 := cell_regrown (blk_cell X0.out 4)
      have q5 := cell_regrown (blk_cell X0.out 5)
      have q6 := cell_regrown (blk_cell X0.out 6)
      have q7 := cell_regrown (blk_cell X0.out 7)
      have cHQ : ∀ (d : Nat) (os : Array Obj), Calls Try.prog 38 #[.int .i64 c.size, .int .i64 (c.classes.getD i 0)] (grow (redrawn (w.alloc (.cells #[.int .i64 c.size, .int .i64 c.pages, .slice (some ⟨gl, off, none⟩) c.classes.length cc, .slice ak c.keep.length ck, .int .i64 c.step, .int .i64 c.slots, .int .i64 c.gens, .int .i64 c.most] 24)) d) os) fun e w'' => e = .returned (.int .i64 (wholeS c.size (c.classes.getD i 0))) ∧ ∃ p : Regrown, w'' = grow (redrawn (w.alloc (.cells #[.int .i64 c.size, .int .i64 c.pages, .slice (some ⟨gl, off, none⟩) c.classes.length cc, .slice ak c.keep.length ck, .int .i64 c.step, .int .i64 c.slots, .int .i64 c.gens, .int .i64 c.most] 24)) p.d) p.os := fun d os =>
        Calls.regrown_of (calls_below (rwhole_any _ c.size (c.classes.getD i 0) hs))
      have HQ := Lib.hid cHQ
      clear cHQ
      clear h1 h2 hx g1 g2
      generalize c.classes.getD i 0 = x at z0 HQ ⊢
      go_enter Try.func19, Try.ntmps19
      go_wp2_with fail
      refine wp_region_quiet_below (by kernel_rfl) (by kernel_rfl) ?_
      repeat (first | go_big_quiet_step (first | exact HQ.out _ _) | quiet_step (first | exact HQ.out _ _))
      refine wpQuiet_nil ?_
      intro _ hw'
      obtain ⟨⟨dq, osq⟩, hw''⟩ := hw'
      subst hw''
      have B5 := B0.out.trans ((below_regrown _ dq osq).mono B0.out.size)
      go_wp2_with fail
      go_ret
      exact ⟨rfl, B5⟩
set_option maxHeartbeats 1000000 in
theorem live1 (w : World) (gc gk : Nat) (c : Cf) (i k n : Int) (ac : Option Addr) (cc : Nat) (ak : Option Addr) (ck : Nat) (hc : w.heap[gc]? = some (.cells #[.int .i64 c.size, .int .i64 c.pages, .slice ac c.classes.length cc, .slice ak c.keep.length ck, .int .i64 c.step, .int .i64 c.slots, .int .i64 c.gens, .int .i64 c.most] 24 (0, 0))) (hk : w.heap[gk]? = some (.cells #[.int .i64 k] 3 (0, 0))) (h1 : LV 0 w (.slice ac c.classes.length cc) c.classes) :
    Calls Try.prog 34 #[.int .i64 i, .int .i64 n, ptr gc, ptr gk] w fun e w' => e = .returned (.int .i64 (liveF c k n)) ∧ Below w.heap.size w w' := by
  have H1 := Lib.hid h1
  have q0 := cell_regrown (blk_cell hc 0)
  have q1 := cell_regrown (blk_cell hc 1)
  have q2 := cell_regrown (blk_cell hc 2)
  have q3 := cell_regrown (blk_cell hc 3)
  have q4 := cell_regrown (blk_cell hc 4)
  have q5 := cell_regrown (blk_cell hc 5)
  have q6 := cell_regrown (blk_cell hc 6)
  have q7 := cell_regrown (blk_cell hc 7)
  have qk := cell_regrown (blk_cell hk 0)
  have cHQ : ∀ (d : Nat) (os : Array Obj), Calls Try.prog 35 #[.slice ac c.classes.length cc, .int .i64 n] (grow (redrawn w d) os) fun e w'' => e = .returned (.int .i64 (pickP c.classes n)) ∧ ∃ p : Regrown, w'' = grow (redrawn w p.d) p.os := fun d os =>
    Calls.regrown_of (pick_any 0 _ _ c.classes n (H1.out.keep (below_regrown w d os)))
  have HQ := Lib.hid cHQ
  clear cHQ
  have HR : Hid (∀ r, r = pickP c.classes n → okN c n → 0 ≤ k → r = k → liveF c k n = 1) := Lib.hid (fun r e h1 h2 h3 => if_pos ⟨h1, h2, by rw [← e]; exact h3⟩)
  have HN : Hid (∀ r, r = pickP c.classes n → ¬ (okN c n ∧ 0 ≤ k ∧ r = k) → liveF c k n = 0) := Lib.hid (fun r e h => if_neg (by rw [← e]; exact h))
  obtain ⟨p, hp⟩ : ∃ p, p = pickP c.classes n := ⟨_, rfl⟩
  rw [← hp] at HQ
  have Hp := Lib.hid hp
  clear hc hk h1 hp
  by_cases g1 : 1 ≤ n
  · by_cases g2 : n ≤ c.most
    · by_cases g3 : 0 ≤ k
      · have d1 : decide (1 ≤ n) = true := decide_eq_true g1
        have d2 : decide (n ≤ c.most) = true := decide_eq_true g2
        have d3 : decide (0 ≤ k) = true := decide_eq_true g3
        by_cases g4 : p = k
        · subst g4
          rw [HR.out p Hp.out ⟨g1, g2⟩ g3 rfl]
          go_enter Try.func34, Try.ntmps34
          go_wp2_with fail
          refine wp_region_quiet_below (by kernel_rfl) (by kernel_rfl) ?_
          repeat (first | go_big_quiet_step (first | exact HQ.out _ _) | quiet_step (first | exact HQ.out _ _))
          refine wpQuiet_nil ?_
          intro _ hw'
          obtain ⟨⟨dq, osq⟩, hw''⟩ := hw'
          subst hw''
          have B5 := below_regrown w dq osq
          go_wp2_with fail
          go_ret
          exact ⟨rfl, B5⟩
        · have d4 : (p == k) = false := beq_eq_false_iff_ne.2 g4
          rw [HN.out p Hp.out (fun h => g4 h.2.2)]
          go_enter Try.func34, Try.ntmps34
          go_wp2_with fail
          refine wp_region_quiet_below (by kernel_rfl) (by kernel_rfl) ?_
          repeat (first | go_big_quiet_step (first | exact HQ.out _ _) | quiet_step (first | exact HQ.out _ _))
          refine wpQuiet_nil ?_
          intro _ hw'
          obtain ⟨⟨dq, osq⟩, hw''⟩ := hw'
          subst hw''
          have B5 := below_regrown w dq osq
          go_wp2_with fail
          go_ret
          exact ⟨rfl, B5⟩
      · have d1 : decide (1 ≤ n) = true := decide_eq_true g1
        have d2 : decide (n ≤ c.most) = true := decide_eq_true g2
        have d3 : decide (0 ≤ k) = false := decide_eq_false g3
        rw [HN.out p Hp.out (fun h => g3 h.2.1)]
        go_enter Try.func34, Try.ntmps34
        go_wp2_with fail
        refine wp_region_quiet_below (by kernel_rfl) (by kernel_rfl) ?_
        repeat (first | go_big_quiet_step (first | exact HQ.out _ _) | quiet_step (first | exact HQ.out _ _))
        refine wpQuiet_nil ?_
        intro _ hw'
        obtain ⟨⟨dq, osq⟩, hw''⟩ := hw'
        subst hw''
        have B5 := below_regrown w dq osq
        go_wp2_with fail
        go_ret
        exact ⟨rfl, B5⟩
    · have d1 : decide (1 ≤ n) = true := decide_eq_true g1
      have d2 : decide (n ≤ c.most) = false := decide_eq_false g2
      rw [HN.out p Hp.out (fun h => g2 h.1.2)]
      go_enter Try.func34, Try.ntmps34
      go_wp2_with fail
      refine wp_region_quiet_below (by kernel_rfl) (by kernel_rfl) ?_
      repeat (first | go_big_quiet_step (first | exact HQ.out _ _) | quiet_step (first | exact HQ.out _ _))
      refine wpQuiet_nil ?_
      intro _ hw'
      obtain ⟨⟨dq, osq⟩, hw''⟩ := hw'
      subst hw''
      have B5 := below_regrown w dq osq
      go_wp2_with fail
      go_ret
      exact ⟨rfl, B5⟩
  · have d1 : decide (1 ≤ n) = false := decide_eq_false g1
    rw [HN.out p Hp.out (fun h => g1 h.1.1)]
    go_enter Try.func34, Try.ntmps34
    go_wp2_with fail
    refine wp_region_quiet_below (by kernel_rfl) (by kernel_rfl) ?_
    repeat (first | go_big_quiet_step (first | exact HQ.out _ _) | quiet_step (first | exact HQ.out _ _))
    refine wpQuiet_nil ?_
    intro _ hw'
    obtain ⟨⟨dq, osq⟩, hw''⟩ := hw'
    subst hw''
    have B5 := below_regrown w dq osq
    go_wp2_with fail
    go_ret
    exact ⟨rfl, B5⟩
end Go.Proofs.Ythhpkinedbdlhaa
