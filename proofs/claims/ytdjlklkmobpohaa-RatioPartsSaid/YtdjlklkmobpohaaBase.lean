/- The contracts of the small functions of ratio and of its reference. -/
import Derived.Test.YtdjlklkmobpohaaFloat
import Derived.Test.YtdjlklkmobpohaaFrame
import Derived.Test.YtdjlklkmobpohaaRows
import Derived.Laws.Externs
import Derived.Laws.Bits64
import Derived.Laws.Bits64b
namespace Go.Proofs.Ytdjlklkmobpohaa
open Go.RowKit Ieee

theorem run_bits (b : Nat) (w : World) : (callFunc 21 #[.float .f64 b]).run Try.prog w = .ok (.value (.int .u64 b)) w := by
  rw [run_callFunc_extern (P := Try.prog) (f := 21) (fn := Try.f21) (e := Extern.MathFloatBits.float64bits) Try.func21 (by kernel_rfl) (by kernel_rfl) (by kernel_rfl) (by kernel_rfl)]
  rfl
theorem run_frombits (n : Int) (w : World) : (callFunc 30 #[.int .u64 n]).run Try.prog w = .ok (.value (.float .f64 n.toNat)) w := by
  rw [run_callFunc_extern (P := Try.prog) (f := 30) (fn := Try.f30) (e := Extern.MathFloatBits.float64frombits) Try.func30 (by kernel_rfl) (by kernel_rfl) (by kernel_rfl) (by kernel_rfl)]
  rfl

theorem ord_self (x : Nat) (hx : x < 18446744073709551616) : (FloatKind.f64.format.order x x == some .eq) = !decide (isN x) := by
  show (double.order x x == some .eq) = _
  by_cases h : isN x
  · rw [order_nan_left x x h]; simp [h]
  · rw [order_num x x hx hx h h]; simp [h, compare, compareOfLessAndEq]
theorem num_any (w : World) (x : Nat) (hx : x < 18446744073709551616) : Calls Try.prog 12 #[.float .f64 x] w fun e w' => e = .returned (.bool (!decide (isN x))) ∧ w = w' := by
  rw [← ord_self x hx]
  go_enter Try.func12, Try.ntmps12
  go_wp2_with fail
  go_ret
  exact ⟨rfl, rfl⟩
theorem signbit_any (w : World) (x : Nat) (hx : x < 18446744073709551616) : Calls Try.prog 29 #[.float .f64 x] w fun e w' => e = .returned (.bool (decide (9223372036854775808 ≤ x))) ∧ w = w' := by
  have hb := run_bits x
  have e : decide (9223372036854775808 ≤ x) = decide (wrap64 (x : Int) < 0) := by
    unfold wrap64
    by_cases h : 9223372036854775808 ≤ x
    · simp [h]; omega
    · simp [h]; omega
  rw [e]
  go_enter Try.func29, Try.ntmps29
  go_wp2_with fail
  go_ret
  exact ⟨rfl, rfl⟩
theorem flip_bits (x : Nat) (hx : x < 18446744073709551616) : bits .xor .u64 IntKind.u64.max (x : Int) = ((18446744073709551615 - x : Nat) : Int) := by
  have e : IntKind.u64.max = ((18446744073709551615 : Nat) : Int) := rfl
  rw [e, bits_xor_u64_nat _ _ (by omega) hx]
  congr 1
  refine Nat.eq_of_testBit_eq fun i => ?_
  have h1 := Nat.testBit_two_pow_sub_succ (n := 64) (x := x) hx i
  have h2 := Nat.testBit_two_pow_sub_one 64 i
  rw [show (2 : Nat) ^ 64 - (x + 1) = 18446744073709551615 - x from by omega] at h1
  rw [show (2 : Nat) ^ 64 - 1 = 18446744073709551615 from rfl] at h2
  rw [Nat.testBit_xor, h1, h2]
  by_cases hi : i < 64
  · simp [hi]
  · have : x.testBit i = false := Nat.testBit_lt_two_pow (Nat.lt_of_lt_of_le hx (Nat.pow_le_pow_right (n := 2) (by omega) (show 64 ≤ i by omega)))
    simp [hi, this]
theorem top_bit (x : Nat) (hx : x < 9223372036854775808) : bits .or .u64 (x : Int) 9223372036854775808 = ((x + 9223372036854775808 : Nat) : Int) := by
  have e : (9223372036854775808 : Int) = ((9223372036854775808 : Nat) : Int) := rfl
  rw [e, bits_or_u64_nat _ _ (by omega) (by omega)]
  congr 1
  have := Nat.two_pow_add_eq_or_of_lt (b := x) (i := 63) hx 1
  rw [show (2 : Nat) ^ 63 * 1 = 9223372036854775808 from rfl] at this
  rw [Nat.or_comm, ← this, Nat.add_comm]
def keyS (x : Nat) : Nat := if isN x then 18446744073709551615 else if 9223372036854775808 ≤ x then 18446744073709551615 - x else x + 9223372036854775808
theorem keyed_any (w : World) (x : Nat) (hx : x < 18446744073709551616) : Calls Try.prog 22 #[.float .f64 x] w fun e w' => e = .returned (.int .u64 (keyS x)) ∧ w = w' := by
  have hb := run_bits x
  have ho := ord_self x hx
  unfold keyS
  by_cases h : isN x
  · rw [if_pos h]
    have ho' : (FloatKind.f64.format.order x x != some .eq) = true := by simp only [bne, ho, h, decide_true]; rfl
    go_enter Try.func22, Try.ntmps22
    go_wp2_with fail
    go_ret
    exact ⟨rfl, rfl⟩
  · rw [if_neg h]
    have ho' : (FloatKind.f64.format.order x x != some .eq) = false := by simp only [bne, ho, h, decide_false]; rfl
    clear ho
    by_cases h1 : 9223372036854775808 ≤ x
    · rw [if_pos h1]
      have hs : ∀ w, Calls Try.prog 29 #[.float .f64 x] w fun e w' => e = .returned (.bool true) ∧ w = w' := fun w => by have := signbit_any w x hx; simpa [h1] using this
      go_enter Try.func22, Try.ntmps22
      go_wp2_with fail
      refine (hs _).mono ?_
      rintro e w1 ⟨rfl, rfl⟩
      go_wp2_with fail
      rw [flip_bits x hx]
      go_ret
      exact ⟨rfl, rfl⟩
    · rw [if_neg h1]
      have hs : ∀ w, Calls Try.prog 29 #[.float .f64 x] w fun e w' => e = .returned (.bool false) ∧ w = w' := fun w => by have := signbit_any w x hx; simpa [h1] using this
      go_enter Try.func22, Try.ntmps22
      go_wp2_with fail
      refine (hs _).mono ?_
      rintro e w1 ⟨rfl, rfl⟩
      go_wp2_with fail
      rw [top_bit x (by omega)]
      go_ret
      exact ⟨rfl, rfl⟩

theorem keylt_any (w : World) (x y : Nat) : Calls Try.prog 23 #[.int .u64 x, .int .u64 y] w fun e w' => e = .returned (.bool (decide (x < y))) ∧ w = w' := by
  go_enter Try.func23, Try.ntmps23
  go_wp2_with fail
  go_ret
  exact ⟨by simp, rfl⟩
def belowB (x y : Nat) : Bool := decide (keyS x < keyS y)
theorem below_any (w : World) (x y : Nat) (hx : x < 18446744073709551616) (hy : y < 18446744073709551616) : Calls Try.prog 13 #[.float .f64 x, .float .f64 y] w fun e w' => e = .returned (.bool (belowB x y)) ∧ w = w' := by
  have hmf : ∀ (fn : Fn) (first cap : Array Value) (w : World), (Instr.makeFunc fn first cap).run Try.prog w = .ok (.func fn first cap) w := fun _ _ _ _ => rfl
  go_enter Try.func13, Try.ntmps13
  go_wp2_with fail
  refine (keyed_any _ x hx).mono ?_
  rintro e w1 ⟨rfl, rfl⟩
  go_wp2_with fail
  refine (keyed_any _ y hy).mono ?_
  rintro e w1 ⟨rfl, rfl⟩
  go_wp2_with fail
  refine (keylt_any _ _ _).mono ?_
  rintro e w1 ⟨rfl, rfl⟩
  go_wp2_with fail
  go_ret
  exact ⟨rfl, rfl⟩
theorem minus_any (w : World) (x : Nat) (hx : x < 18446744073709551616) : Calls Try.prog 24 #[.float .f64 x] w fun e w' => e = .returned (.bool (decide (9223372036854775808 ≤ x))) ∧ w = w' := by
  have hb := run_bits x
  go_enter Try.func24, Try.ntmps24
  go_wp2_with fail
  go_ret
  refine ⟨?_, rfl⟩
  by_cases h : 9223372036854775808 ≤ x
  · simp [h]; omega
  · simp [h]; omega
def sameB (x y : Nat) : Bool := decide (isN x ∧ isN y) || decide (x = y)
theorem same_any (w : World) (x y : Nat) (hx : x < 18446744073709551616) (hy : y < 18446744073709551616) : Calls Try.prog 10 #[.float .f64 x, .float .f64 y] w fun e w' => e = .returned (.bool (sameB x y)) ∧ w = w' := by
  have hb := run_bits
  unfold sameB
  by_cases h : isN x
  · by_cases h' : isN y
    · go_enter Try.func10, Try.ntmps10
      go_wp2_with fail
      refine (num_any _ x hx).mono ?_
      rintro e w1 ⟨rfl, rfl⟩
      go_wp2_with fail
      refine (num_any _ y hy).mono ?_
      rintro e w1 ⟨rfl, rfl⟩
      go_wp2_with fail
      go_ret
      exact ⟨by simp [h, h'], rfl⟩
    · go_enter Try.func10, Try.ntmps10
      go_wp2_with fail
      refine (num_any _ x hx).mono ?_
      rintro e w1 ⟨rfl, rfl⟩
      go_wp2_with fail
      refine (num_any _ y hy).mono ?_
      rintro e w1 ⟨rfl, rfl⟩
      go_wp2_with fail
      go_ret
      exact ⟨by simp [h']; rw [Bool.eq_iff_iff]; simp; omega, rfl⟩
  · go_enter Try.func10, Try.ntmps10
    go_wp2_with fail
    refine (num_any _ x hx).mono ?_
    rintro e w1 ⟨rfl, rfl⟩
    go_wp2_with fail
    go_ret
    exact ⟨by simp [h]; rw [Bool.eq_iff_iff]; simp; omega, rfl⟩

def refB (x y : Nat) : Bool := if isN x then false else if isN y then true else if sr x = sr y then decide (9223372036854775808 ≤ x) && !decide (9223372036854775808 ≤ y) else decide (sr x < sr y)
theorem refB_eq (x y : Nat) (hx : x < 18446744073709551616) (hy : y < 18446744073709551616) : refB x y = belowB x y := by
  unfold refB belowB keyS
  by_cases h1 : isN x
  · rw [if_pos h1, if_pos h1]
    have : ¬ (18446744073709551615 < (if isN y then 18446744073709551615 else if 9223372036854775808 ≤ y then 18446744073709551615 - y else y + 9223372036854775808)) := by
      by_cases h2 : isN y
      · rw [if_pos h2]; omega
      · rw [if_neg h2]
        unfold isN rg at h2
        split <;> omega
    simp [this]
  · rw [if_neg h1, if_neg h1]
    by_cases h2 : isN y
    · rw [if_pos h2, if_pos h2]
      unfold isN rg at h1
      symm
      rw [decide_eq_true_iff]
      split <;> omega
    · rw [if_neg h2, if_neg h2]
      unfold sr rg
      unfold isN rg at h1 h2
      by_cases h3 : 9223372036854775808 ≤ x <;> by_cases h4 : 9223372036854775808 ≤ y <;> simp only [h3, h4, if_true, if_false, decide_true, decide_false, Bool.not_true, Bool.not_false, Bool.and_true, Bool.and_false]
      all_goals split <;> first | (rw [Bool.eq_iff_iff]; simp; omega) | (symm; rw [decide_eq_false_iff_not]; omega) | (symm; rw [decide_eq_true_iff]; omega)
theorem refbelow_any (w : World) (x y : Nat) (hx : x < 18446744073709551616) (hy : y < 18446744073709551616) : Calls Try.prog 14 #[.float .f64 x, .float .f64 y] w fun e w' => e = .returned (.bool (belowB x y)) ∧ w = w' := by
  rw [← refB_eq x y hx hy]
  unfold refB
  by_cases h : isN x
  · rw [if_pos h]
    go_enter Try.func14, Try.ntmps14
    go_wp2_with fail
    refine (num_any _ x hx).mono ?_
    rintro e w1 ⟨rfl, rfl⟩
    go_wp2_with fail
    go_ret
    exact ⟨rfl, rfl⟩
  · rw [if_neg h]
    by_cases h' : isN y
    · rw [if_pos h']
      go_enter Try.func14, Try.ntmps14
      go_wp2_with fail
      refine (num_any _ x hx).mono ?_
      rintro e w1 ⟨rfl, rfl⟩
      go_wp2_with fail
      refine (num_any _ y hy).mono ?_
      rintro e w1 ⟨rfl, rfl⟩
      go_wp2_with fail
      go_ret
      exact ⟨rfl, rfl⟩
    · rw [if_neg h']
      have ho : FloatKind.f64.format.order x y = some (compare (sr x) (sr y)) := order_num x y hx hy h h'
      by_cases h3 : sr x = sr y
      · rw [if_pos h3]
        rw [h3] at ho
        have ho2 : (FloatKind.f64.format.order x y == some .eq) = true := by rw [ho]; simp [compare, compareOfLessAndEq]
        clear ho
        go_enter Try.func14, Try.ntmps14
        go_wp2_with fail
        refine (num_any _ x hx).mono ?_
        rintro e w1 ⟨rfl, rfl⟩
        go_wp2_with fail
        refine (num_any _ y hy).mono ?_
        rintro e w1 ⟨rfl, rfl⟩
        go_wp2_with fail
        refine (minus_any _ x hx).mono ?_
        rintro e w1 ⟨rfl, rfl⟩
        by_cases h5 : 9223372036854775808 ≤ x
        · have d : decide (9223372036854775808 ≤ x) = true := by simpa using h5
          rw [d]
          go_wp2_with fail
          refine (minus_any _ y hy).mono ?_
          rintro e w1 ⟨rfl, rfl⟩
          go_wp2_with fail
          go_ret
          exact ⟨by simp; omega, rfl⟩
        · have d : decide (9223372036854775808 ≤ x) = false := by simpa using h5
          rw [d]
          go_wp2_with fail
          go_ret
          exact ⟨by simp; omega, rfl⟩
      · rw [if_neg h3]
        have ho2 : (FloatKind.f64.format.order x y == some .eq) = false := by rw [ho]; simp only [compare, compareOfLessAndEq]; split <;> simp
        have ho3 : (FloatKind.f64.format.order x y == some .lt) = decide (sr x < sr y) := by
          rw [ho]; simp only [compare, compareOfLessAndEq, h3, if_false]
          by_cases h6 : sr x < sr y <;> simp [h6]
        clear ho
        go_enter Try.func14, Try.ntmps14
        go_wp2_with fail
        refine (num_any _ x hx).mono ?_
        rintro e w1 ⟨rfl, rfl⟩
        go_wp2_with fail
        refine (num_any _ y hy).mono ?_
        rintro e w1 ⟨rfl, rfl⟩
        go_wp2_with fail
        go_ret
        exact ⟨rfl, rfl⟩

/-- what an operation on floats may answer -/
def FR (op : BinOp) (x y r : Nat) : Prop := (floatBits op .f64 x y = some r ∨ (floatBits op .f64 x y = none ∧ isN r)) ∧ r < 18446744073709551616
def nanAt (w : World) (x y : Nat) : Nat := (Question.nanBits .f64 x y).cut (w.tape w.drawn (.nanBits .f64 x y))
theorem run_float_nan (w : World) (op : BinOp) (t : TypeId) (x y : Nat) (hop : op = .add ∨ op = .quo) (h : floatBits op .f64 x y = none) : (binOp op t (.float .f64 x) (.float .f64 y)).run Try.prog w = .ok (.float .f64 (nanAt w x y)) w.drew := by
  unfold floatBits at h
  rcases hop with rfl | rfl <;> simp only at h <;> simp [binOp, Op.floatArith, h, nanAt, Question.forced]
theorem nanAt_nan (w : World) (x y : Nat) : isN (nanAt w x y) ∧ nanAt w x y < 18446744073709551616 := by
  unfold nanAt Question.cut isN rg
  simp only
  generalize w.tape w.drawn (Question.nanBits FloatKind.f64 x y) = t
  have h2 : t / 2 % (2 ^ 52 - 1) < 2 ^ 52 - 1 := Nat.mod_lt _ (by decide)
  generalize t / 2 % (2 ^ 52 - 1) = c at h2
  rcases (show t % 2 = 0 ∨ t % 2 = 1 from by omega) with h | h <;> rw [h] <;> omega
theorem fr_some {op : BinOp} {x y r : Nat} (h : floatBits op .f64 x y = some r) : FR op x y r := by
  have := floatBits_wf h
  simp [Lit.wf] at this
  exact ⟨.inl h, by simpa using this⟩
theorem fr_none {op : BinOp} {x y : Nat} (w : World) (h : floatBits op .f64 x y = none) : FR op x y (nanAt w x y) := ⟨.inr ⟨h, (nanAt_nan w x y).1⟩, (nanAt_nan w x y).2⟩
theorem below_drew (w : World) : Below w.heap.size w w.drew := ⟨rfl, rfl, rfl, Nat.le_refl _, fun _ _ => rfl⟩
theorem part_any (w : World) (a b : Int) : Calls Try.prog 9 #[.int .i64 a, .int .i64 b] w fun e w' => ∃ r, e = .returned (.float .f64 r) ∧ FR .quo (floatOfInt .f64 a) (floatOfInt .f64 b) r ∧ Below w.heap.size w w' := by
  rcases hq : floatBits .quo .f64 (floatOfInt .f64 a) (floatOfInt .f64 b) with _ | r
  · have hr := fun w t => run_float_nan w .quo t _ _ (.inr rfl) hq
    go_enter Try.func9, Try.ntmps9
    go_wp2_with fail
    go_ret
    exact ⟨_, rfl, fr_none w hq, below_drew w⟩
  · have hr := fun (w : World) t => run_float_arith (P := Try.prog) w .quo t .f64 _ _ r hq
    go_enter Try.func9, Try.ntmps9
    go_wp2_with fail
    go_ret
    exact ⟨_, rfl, fr_some hq, Below.refl _ _⟩
theorem rpart_any (w : World) (a b : Int) : Calls Try.prog 11 #[.int .i64 a, .int .i64 b] w fun e w' => ∃ r, e = .returned (.float .f64 r) ∧ FR .quo (floatOfInt .f64 a) (floatOfInt .f64 b) r ∧ Below w.heap.size w w' := by
  rcases hq : floatBits .quo .f64 (floatOfInt .f64 a) (floatOfInt .f64 b) with _ | r
  · have hr := fun w t => run_float_nan w .quo t _ _ (.inr rfl) hq
    go_enter Try.func11, Try.ntmps11
    go_wp2_with fail
    go_ret
    exact ⟨_, rfl, fr_none w hq, below_drew w⟩
  · have hr := fun (w : World) t => run_float_arith (P := Try.prog) w .quo t .f64 _ _ r hq
    go_enter Try.func11, Try.ntmps11
    go_wp2_with fail
    go_ret
    exact ⟨_, rfl, fr_some hq, Below.refl _ _⟩
end Go.Proofs.Ytdjlklkmobpohaa
