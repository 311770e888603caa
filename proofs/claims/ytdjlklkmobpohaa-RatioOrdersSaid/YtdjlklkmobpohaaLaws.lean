/- The walks through the laws RatioBelow, RatioOrders, RatioLeast. -/
import Derived.Test.YtdjlklkmobpohaaAwake
namespace Go.Proofs.Ytdjlklkmobpohaa
open Go.RowKit Ieee
attribute [local go_sem] run_store_float

theorem below_facts (x y : Nat) (hx : x < 18446744073709551616) (hy : y < 18446744073709551616) : (belowB x y && belowB y x) = false ∧ (belowB x y || belowB y x) = !sameB x y ∧ belowB x x = false := by
  have key : keyS x = keyS y ↔ sameB x y = true := by
    unfold sameB keyS
    by_cases h1 : isN x <;> by_cases h2 : isN y <;> simp only [h1, h2, if_true, if_false, and_self, and_false, false_and, decide_true, decide_false, Bool.true_or, Bool.false_or, decide_eq_true_eq]
    · unfold isN rg at h1 h2
      constructor
      · intro h; split at h <;> omega
      · intro h; subst h; omega
    · unfold isN rg at h1 h2
      constructor
      · intro h; split at h <;> omega
      · intro h; subst h; omega
    · unfold isN rg at h1 h2
      constructor
      · intro h; split at h <;> split at h <;> omega
      · intro h; subst h; rfl
  refine ⟨?_, ?_, ?_⟩
  · unfold belowB
    rw [Bool.and_eq_false_iff]
    simp only [decide_eq_false_iff_not]
    omega
  · unfold belowB
    rcases h : sameB x y
    · have : keyS x ≠ keyS y := fun e => by rw [key.1 e] at h; cases h
      simp only [Bool.not_false, Bool.or_eq_true, decide_eq_true_eq]
      omega
    · have := key.2 h
      simp only [Bool.not_true, Bool.or_eq_false_iff, decide_eq_false_iff_not]
      omega
  · unfold belowB; simp

set_option maxHeartbeats 2000000 in
theorem lawBelow_any (w : World) (x y : Nat) (hx : x < 18446744073709551616) (hy : y < 18446744073709551616) :
    Calls Try.prog 4 #[.float .f64 x, .float .f64 y] w fun e w' => e = .returned (.bool true) ∧ Below w.heap.size w w' := by
  obtain ⟨f1, f2, f3⟩ := below_facts x y hx hy
  have H : ∀ (p q s : Bool), p = belowB x y → q = belowB y x → s = sameB x y → Calls Try.prog 4 #[.float .f64 x, .float .f64 y] w fun e w' => e = .returned (.bool true) ∧ Below w.heap.size w w' := by
    intro p q s hp hq hs
    rw [← hp, ← hq] at f1 f2
    rw [← hs] at f2
    have Hp := Lib.hid hp
    have Hq := Lib.hid hq
    have Hs := Lib.hid hs
    clear hp hq hs
    cases p <;> cases q <;> cases s <;> first | (simp at f1; done) | (simp at f2; done) | skip
    all_goals
      clear f1 f2
      go_enter Try.func4, Try.ntmps4
      go_wp2_with fail
      refine (awake_any _).mono ?_
      rintro e w1 ⟨rfl, b1⟩
      go_wp2_with fail
      refine (below_any _ x y hx hy).mono ?_
      rintro e w2 ⟨rfl, rfl⟩
      rw [← Hp.out]
      go_wp2_with fail
      refine (below_any _ y x hy hx).mono ?_
      rintro e w2 ⟨rfl, rfl⟩
      rw [← Hq.out]
      go_wp2_with fail
      refine (same_any _ x y hx hy).mono ?_
      rintro e w2 ⟨rfl, rfl⟩
      rw [← Hs.out]
      go_wp2_with fail
      refine (refbelow_any _ x y hx hy).mono ?_
      rintro e w2 ⟨rfl, rfl⟩
      rw [← Hp.out]
      go_wp2_with fail
      refine (refbelow_any _ y x hy hx).mono ?_
      rintro e w2 ⟨rfl, rfl⟩
      rw [← Hq.out]
      go_wp2_with fail
      refine (below_any _ x x hx hx).mono ?_
      rintro e w2 ⟨rfl, rfl⟩
      rw [f3]
      go_wp2_with fail
      go_ret
      exact ⟨rfl, b1⟩
  exact H _ _ _ rfl rfl rfl

set_option maxHeartbeats 2000000 in
theorem lawOrders_any (w : World) (x y z : Nat) (hx : x < 18446744073709551616) (hy : y < 18446744073709551616) (hz : z < 18446744073709551616) :
    Calls Try.prog 5 #[.float .f64 x, .float .f64 y, .float .f64 z] w fun e w' => e = .returned (.bool true) ∧ Below w.heap.size w w' := by
  have t1 : belowB x y = true → belowB y z = true → belowB x z = true := by unfold belowB; simp only [decide_eq_true_eq]; omega
  have t2 : belowB x y = false → belowB y z = false → belowB x z = false := by unfold belowB; simp only [decide_eq_false_iff_not]; omega
  have H : ∀ (p q s : Bool), p = belowB x y → q = belowB y z → s = belowB x z → Calls Try.prog 5 #[.float .f64 x, .float .f64 y, .float .f64 z] w fun e w' => e = .returned (.bool true) ∧ Below w.heap.size w w' := by
    intro p q s hp hq hs
    rw [← hp, ← hq, ← hs] at t1 t2
    have Hp := Lib.hid hp
    have Hq := Lib.hid hq
    have Hs := Lib.hid hs
    clear hp hq hs
    cases p <;> cases q <;> cases s <;> first | (simp at t1; done) | (simp at t2; done) | skip
    all_goals
      clear t1 t2
      go_enter Try.func5, Try.ntmps5
      go_wp2_with fail
      refine (awake_any _).mono ?_
      rintro e w1 ⟨rfl, b1⟩
      go_wp2_with (first
        | (go_at_call 13; with_reducible refine (below_any _ x y hx hy).mono ?_; rintro e w2 ⟨rfl, rfl⟩; rw [← Hp.out])
        | (go_at_call 13; with_reducible refine (below_any _ y z hy hz).mono ?_; rintro e w2 ⟨rfl, rfl⟩; rw [← Hq.out])
        | (go_at_call 13; with_reducible refine (below_any _ x z hx hz).mono ?_; rintro e w2 ⟨rfl, rfl⟩; rw [← Hs.out]))
      go_ret
      exact ⟨rfl, b1⟩
  exact H _ _ _ rfl rfl rfl
end Go.Proofs.Ytdjlklkmobpohaa
