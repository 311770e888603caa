/- The walk through the law RatioLeast. -/
import Derived.Test.YtdjlklkmobpohaaAwake
namespace Go.Proofs.Ytdjlklkmobpohaa
open Go.RowKit Ieee
attribute [local go_sem] run_store_float

theorem leastK_facts (zs : List Nat) (k : Nat) : (∀ j, j ≤ k → keyS (leastK zs k) ≤ keyS (zs.getD j 0)) ∧ ∃ j, j ≤ k ∧ leastK zs k = zs.getD j 0 := by
  induction k with
  | zero => exact ⟨fun j hj => by obtain rfl : j = 0 := by omega
                                  exact Nat.le_refl _, 0, Nat.le_refl _, rfl⟩
  | succ k ih =>
    obtain ⟨h1, j0, h2, h3⟩ := ih
    have e : leastK zs (k + 1) = if belowB (zs.getD (k + 1) 0) (leastK zs k) then zs.getD (k + 1) 0 else leastK zs k := rfl
    rw [e]
    by_cases hb : belowB (zs.getD (k + 1) 0) (leastK zs k) = true
    · rw [if_pos hb]
      simp only [belowB, decide_eq_true_eq] at hb
      refine ⟨fun j hj => ?_, k + 1, Nat.le_refl _, rfl⟩
      rcases Nat.lt_or_eq_of_le hj with h | rfl
      · have := h1 j (by omega); omega
      · exact Nat.le_refl _
    · rw [if_neg hb]
      simp only [belowB, decide_eq_true_eq] at hb
      refine ⟨fun j hj => ?_, j0, by omega, h3⟩
      rcases Nat.lt_or_eq_of_le hj with h | rfl
      · exact h1 j (by omega)
      · omega
theorem same_self (x : Nat) : sameB x x = true := by unfold sameB; simp

theorem lawLeast_any (w : World) (a : Option Addr) (c : Nat) (zs : List Nat) (hl : zs.length ≤ 9223372036854775807) (hz : ReadF w a zs) (hok : okF zs) :
    Calls Try.prog 6 #[.slice a zs.length c] w fun e w' => e = .returned (.bool true) ∧ Below w.heap.size w w' := by
  by_cases h40 : 40 < zs.length
  · clear hz
    go_enter Try.func6, Try.ntmps6
    go_wp2_with fail
    refine (awake_any _).mono ?_
    rintro e w1 ⟨rfl, b1⟩
    go_wp2_with fail
    go_ret
    exact ⟨rfl, b1⟩
  · have Hz := Lib.hid hz
    have Hok := Lib.hid hok
    have hx := leastS_lt zs hok
    have Hf : Hid (zs.length ≠ 0 → (∀ j, j < zs.length → belowB (zs.getD j 0) (leastS zs) = false) ∧ ∃ j, j < zs.length ∧ leastS zs = zs.getD j 0) := Lib.hid (fun h0 => by
      have e : leastS zs = leastK zs (zs.length - 1) := if_neg h0
      obtain ⟨f1, j, f2, f3⟩ := leastK_facts zs (zs.length - 1)
      rw [e]
      refine ⟨fun j hj => ?_, j, by omega, f3⟩
      have := f1 j (by omega)
      unfold belowB
      rw [decide_eq_false_iff_not]
      omega)
    clear hz hok
    go_enter Try.func6, Try.ntmps6
    go_wp2_with fail
    refine (awake_any _).mono ?_
    rintro e w1 ⟨rfl, b1⟩
    go_wp2_with fail
    refine (least_any _ a c zs hl (Hz.out.keep b1) Hok.out).mono ?_
    rintro e w2 ⟨rfl, b2⟩
    have b3 : Below w.heap.size w w2 := below_after b1 b2 b1.size
    obtain ⟨x, hxe⟩ : ∃ x, x = leastS zs := ⟨_, rfl⟩
    rw [← hxe] at hx Hf ⊢
    have Hxe := Lib.hid hxe
    clear hxe
    go_wp2_with fail
    go_loopw [5, 6] (fun f i wr => ∃ (k : Nat) (b : Bool), i = .int .i64 k ∧ k ≤ zs.length ∧ f = .bool b ∧ (zs.length = 0 → b = true) ∧ (∀ j, j < k → x = zs.getD j 0 → b = true) ∧ Below w.heap.size w wr) (fun _ i _ => zs.length - (intOf i).toNat)
    case atStart => exact ⟨0, _, rfl, Nat.zero_le _, rfl, fun h => by rw [h]; rfl, fun j hj => by omega, b3⟩
    case round =>
      obtain ⟨k, b, rfl, hk, rfl, hb0, hb1, br⟩ := hrel
      have Hb0 := Lib.hid hb0
      have Hb1 := Lib.hid hb1
      clear hb0 hb1
      by_cases hlt : k < zs.length
      · obtain ⟨g, off, rfl, hxz⟩ := Hz.out.elem hlt
        have hxr := hxz wr br
        have hbel := (Hf.out (by omega)).1 k hlt
        have hzk := Hok.out k
        obtain ⟨z, hze⟩ : ∃ z, z = zs.getD k 0 := ⟨_, rfl⟩
        rw [← hze] at hxr hbel hzk
        have Hze := Lib.hid hze
        clear hze hxz
        cases b
        · go_wp2_with fail
          refine (below_any _ z x hzk hx).mono ?_
          rintro e w4 ⟨rfl, rfl⟩
          rw [hbel]
          go_wp2_with fail
          refine (same_any _ z x hzk hx).mono ?_
          rintro e w4 ⟨rfl, rfl⟩
          go_wp2_with fail
          go_roundw
          case rel =>
            refine ⟨k + 1, _, by go_num, hlt, rfl, fun h => by omega, fun j hj hxj => ?_, br⟩
            rcases Nat.lt_or_eq_of_le (Nat.le_of_lt_succ hj) with h | rfl
            · have := Hb1.out j h hxj
              cases this
            · rw [hxj, ← Hze.out]; exact same_self z
          case measure => simp [intOf]; omega
        · go_wp2_with fail
          refine (below_any _ z x hzk hx).mono ?_
          rintro e w4 ⟨rfl, rfl⟩
          rw [hbel]
          go_wp2_with fail
          go_roundw
          case rel => exact ⟨k + 1, true, by go_num, hlt, rfl, fun _ => rfl, fun _ _ _ => rfl, br⟩
          case measure => simp [intOf]; omega
      · have hb : b = true := by
          by_cases h0 : zs.length = 0
          · exact Hb0.out h0
          · obtain ⟨_, j, hj, hxj⟩ := Hf.out h0
            exact Hb1.out j (by omega) hxj
        subst hb
        go_wp2_with fail
        refine (rleast_any _ a c zs hl (Hz.out.keep br) Hok.out).mono ?_
        rintro e w4 ⟨rfl, b4⟩
        rw [← Hxe.out]
        go_wp2_with fail
        refine (same_any _ x x hx hx).mono ?_
        rintro e w5 ⟨rfl, rfl⟩
        rw [same_self]
        go_wp2_with fail
        go_ret
        exact ⟨rfl, below_after br b4 br.size⟩
end Go.Proofs.Ytdjlklkmobpohaa
