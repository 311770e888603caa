/- The laws' own start (awake), and what the plain functions answer for its floats. -/
import Derived.Test.YtdjlklkmobpohaaLeast
namespace Go.Proofs.Ytdjlklkmobpohaa
open Go.RowKit Ieee
attribute [local go_sem] run_store_float
attribute [local go_sem] Oper.semAt_some

theorem fr_det {op : BinOp} {x y r s : Nat} (h : FR op x y r) (hs : floatBits op .f64 x y = some s) : r = s := by
  rcases h.1 with h | ⟨h, _⟩
  · rw [hs] at h; exact (Option.some.inj h).symm
  · rw [hs] at h; cases h

def sumF : List Nat → Nat → Option Nat
  | [], s => some s
  | x :: xs, s => match floatBits .add .f64 s x with
    | some m => sumF xs m
    | none => none
theorem sum_det (xs : List Nat) (s r t : Nat) (h : SumR xs s r) (ht : sumF xs s = some t) : r = t := by
  induction xs generalizing s with
  | nil => obtain rfl := h; exact Option.some.inj ht
  | cons x xs ih =>
    obtain ⟨m, h1, h2⟩ := h
    simp only [sumF] at ht
    split at ht
    · next m' e => exact ih m h2 (by rw [fr_det h1 e]; exact ht)
    · cases ht
theorem readF_new (w : World) (l : List Nat) : ReadF (w.alloc (.cells (l.map (Value.float .f64)).toArray 23)) (some ⟨w.heap.size, 0, none⟩) l := by
  refine .inr ⟨w.heap.size, 0, rfl, fun i hi => ?_⟩
  rw [Nat.zero_add, World.cell?_alloc_new]
  simp [List.getD, hi]

set_option maxHeartbeats 1000000 in
theorem awake_any (w : World) : Calls Try.prog 8 #[] w fun e w' => e = .returned (.bool true) ∧ Below w.heap.size w w' := by
  have p1 : floatBits .quo .f64 (floatOfInt .f64 1) (floatOfInt .f64 0) = some 9218868437227405312 := by decide +kernel
  have p2 : floatBits .quo .f64 (floatOfInt .f64 0) (floatOfInt .f64 0) = none := by decide +kernel
  go_enter Try.func8, Try.ntmps8
  go_wp2_with fail
  refine (part_any _ 1 0).mono ?_
  rintro e w1 ⟨r1, rfl, h1, b1⟩
  obtain rfl := fr_det h1 p1
  go_wp2_with fail
  refine (part_any _ 0 0).mono ?_
  rintro e w2 ⟨r2, rfl, h2, b2⟩
  have h3 : isN r2 := by
    rcases h2.1 with h | ⟨_, h⟩
    · rw [p2] at h; cases h
    · exact h
  have b3 := below_after b1 b2 b1.size
  have h4 := h2.2
  have n1 : (FloatKind.f64.format.order r2 r2 != some .eq) = true := by simp only [bne, ord_self r2 h4, h3, decide_true]; rfl
  have o1 : FloatKind.f64.format.order 9218868437227405312 4652007308841189376 = some .gt := by decide +kernel
  clear h1 h2
  have k1 : belowB 13830554455654793216 0 = true := by decide +kernel
  have k2 : belowB 0 13830554455654793216 = false := by decide +kernel
  have k3 : belowB 9218868437227405312 r2 = true := by
    unfold belowB
    rw [show keyS 9218868437227405312 = 18442240474082181120 from by decide +kernel, show keyS r2 = 18446744073709551615 from if_pos h3]
    decide
  go_wp2_with fail
  refine (below_any _ _ _ (by decide) (by decide)).mono ?_
  rintro e w3 ⟨rfl, rfl⟩
  rw [k1]
  go_wp2_with fail
  refine (below_any _ _ _ (by decide) (by decide)).mono ?_
  rintro e w3 ⟨rfl, rfl⟩
  rw [k2]
  go_wp2_with fail
  refine (below_any _ _ _ (by decide) h4).mono ?_
  rintro e w3 ⟨rfl, rfl⟩
  rw [k3]
  go_wp2_with fail
  have s1 : leastS [4613937818241073152, 13835058055282163712, 4617315517961601024] = 13835058055282163712 := by decide +kernel
  have s2 : sumF [4607182418800017408, 4611686018427387904, 4616189618054758400] 0 = some 4619567317775286272 := by decide +kernel
  have s3 : sumF [4607182418800017408, 4611686018427387904] 0 = some 4613937818241073152 := by decide +kernel
  have s4 : floatBits .quo .f64 4613937818241073152 (floatOfInt .f64 2) = some 4609434218613702656 := by decide +kernel
  have q1 : FloatKind.f64.format.order 13835058055282163712 13835058055282163712 = some .eq := by decide +kernel
  have q2 : FloatKind.f64.format.order 4619567317775286272 4619567317775286272 = some .eq := by decide +kernel
  have q3 : FloatKind.f64.format.order 4609434218613702656 4609434218613702656 = some .eq := by decide +kernel
  refine (least_any _ _ 3 [4613937818241073152, 13835058055282163712, 4617315517961601024] (by decide) (readF_new w2 _) ?_).mono ?_
  · intro i
    rcases i with _ | _ | _ | i <;> simp
  rintro e w3 ⟨rfl, b4⟩
  rw [s1]
  have b5 : Below w.heap.size w w3 := below_after (b3.alloc b3.size _) b4 (by have := b3.size; simp; omega)
  go_wp2_with fail
  refine (sum_any _ _ 3 [4607182418800017408, 4611686018427387904, 4616189618054758400] (by decide) (readF_new w3 _)).mono ?_
  rintro e w4 ⟨r3, rfl, hs, b6⟩
  obtain rfl := sum_det _ _ _ _ hs s2
  have b7 : Below w.heap.size w w4 := below_after (b5.alloc b5.size _) b6 (by have := b5.size; simp; omega)
  go_wp2_with fail
  refine (mean_any _ _ 2 [4607182418800017408, 4611686018427387904] (by decide) (readF_new w4 _)).mono ?_
  rintro e w5 ⟨r4, rfl, ⟨s, hs2, hq⟩, b8⟩
  obtain rfl := sum_det _ _ _ _ hs2 s3
  obtain rfl := fr_det hq s4
  have b9 : Below w.heap.size w w5 := below_after (b7.alloc b7.size _) b8 (by have := b7.size; simp; omega)
  go_wp2_with fail
  go_ret
  exact ⟨rfl, b9⟩
end Go.Proofs.Ytdjlklkmobpohaa
