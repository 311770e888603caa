/- Contracts of package ident's functions and of the reference's: for all whole numbers of int, in every world. -/
import Derived.Test.YtkbifnbblimnlaaMay
namespace Go.Proofs.Ytkbifnbblimnlaa
open Go.RowKit

theorem join_yes (w : World) (s g : Int) (h : 0 ≤ s ∧ s ≤ 4095 ∧ 1 ≤ g ∧ g ≤ 1023) : Calls Try.prog 25 #[.int .i64 s, .int .i64 g] w fun e w' => e = .returned (.tuple #[.int .i64 (g * 4096 + s), .int .i64 0]) ∧ Below w.heap.size w w' := by
  have hb := mayB_yes h
  go_enter Try.func25, Try.ntmps25
  go_wp2_with fail
  refine (may_any _ s g).mono ?_
  rintro e w1 ⟨rfl, b1⟩
  go_wp2
  go_ret2
  exact ⟨rfl, b1⟩
theorem join_no (w : World) (s g : Int) (h : ¬ (0 ≤ s ∧ s ≤ 4095 ∧ 1 ≤ g ∧ g ≤ 1023)) : Calls Try.prog 25 #[.int .i64 s, .int .i64 g] w fun e w' => e = .returned (.tuple #[.int .i64 0, .int .i64 1]) ∧ Below w.heap.size w w' := by
  have hb := mayB_no h
  clear h
  go_enter Try.func25, Try.ntmps25
  go_wp2_with fail
  refine (may_any _ s g).mono ?_
  rintro e w1 ⟨rfl, b1⟩
  go_wp2
  go_ret2
  exact ⟨rfl, b1⟩

theorem rjoin_yes (w : World) (s g : Int) (h : 0 ≤ s ∧ s ≤ 4095 ∧ 1 ≤ g ∧ g ≤ 1023) : Calls Try.prog 27 #[.int .i64 s, .int .i64 g] w fun e w' => e = .returned (.tuple #[.int .i64 (g * 4096 + s), .int .i64 0]) ∧ w = w' := by
  go_enter Try.func27, Try.ntmps27
  go_wp2
  go_ret2
  exact ⟨by simp; omega, rfl⟩
theorem rjoin_no (w : World) (s g : Int) (h : ¬ (0 ≤ s ∧ s ≤ 4095 ∧ 1 ≤ g ∧ g ≤ 1023)) : Calls Try.prog 27 #[.int .i64 s, .int .i64 g] w fun e w' => e = .returned (.tuple #[.int .i64 0, .int .i64 1]) ∧ w = w' := by
  by_cases h1 : s < 0
  · go_enter Try.func27, Try.ntmps27
    go_wp2
    go_ret2
    exact ⟨rfl, rfl⟩
  by_cases h2 : 4095 < s
  · go_enter Try.func27, Try.ntmps27
    go_wp2
    go_ret2
    exact ⟨rfl, rfl⟩
  by_cases h3 : g < 1
  · go_enter Try.func27, Try.ntmps27
    go_wp2
    go_ret2
    exact ⟨rfl, rfl⟩
  have h4 : 1023 < g := by omega
  clear h
  go_enter Try.func27, Try.ntmps27
  go_wp2
  go_ret2
  exact ⟨rfl, rfl⟩
theorem split_yes (w : World) (h : Int) (h0 : 4096 ≤ h) (h1 : h < 4194304) : Calls Try.prog 22 #[.int .i64 h] w fun e w' => e = .returned (.tuple #[.int .i64 (h % 4096), .int .i64 (h / 4096), .int .i64 0]) ∧ Below w.heap.size w w' := by
  have hb : mayB (h % 4096) (h / 4096) = true := mayB_yes (by omega)
  go_enter Try.func22, Try.ntmps22
  go_wp2_with fail
  refine (may_any _ _ _).mono ?_
  rintro e w1 ⟨rfl, b1⟩
  go_wp2
  go_ret3
  exact ⟨rfl, b1⟩
theorem split_low (w : World) (h : Int) (hn : 0 ≤ h ∧ h < 4096 ∨ 4194304 ≤ h) (hu : h ≤ 9223372036854775807) : Calls Try.prog 22 #[.int .i64 h] w fun e w' => e = .returned (.tuple #[.int .i64 0, .int .i64 0, .int .i64 7]) ∧ Below w.heap.size w w' := by
  have hb : mayB (h % 4096) (h / 4096) = false := mayB_no (by omega)
  have h0 : 0 ≤ h := by omega
  clear hn
  go_enter Try.func22, Try.ntmps22
  go_wp2_with fail
  refine (may_any _ _ _).mono ?_
  rintro e w1 ⟨rfl, b1⟩
  go_wp2
  go_ret3
  exact ⟨rfl, b1⟩
theorem split_neg (w : World) (h : Int) (hn : h < 0) (hl : -9223372036854775808 ≤ h) : Calls Try.prog 22 #[.int .i64 h] w fun e w' => e = .returned (.tuple #[.int .i64 0, .int .i64 0, .int .i64 7]) ∧ Below w.heap.size w w' := by
  have hd : h.tdiv 4096 = -((-h) / 4096) := by
    have e : h = -(-h) := by omega
    rw [e, Int.neg_tdiv, Int.tdiv_eq_ediv_of_nonneg (by omega), Int.neg_neg]
  have hb : mayB (h.tmod 4096) (h.tdiv 4096) = false := mayB_no (by omega)
  have hx : -9223372036854775808 ≤ h.tdiv 4096 := by omega
  have hx2 : h.tdiv 4096 ≤ 0 := by omega
  clear hd
  go_enter Try.func22, Try.ntmps22
  go_wp2_with fail
  refine (may_any _ _ _).mono ?_
  rintro e w1 ⟨rfl, b1⟩
  go_wp2
  go_ret3
  exact ⟨rfl, b1⟩
theorem split_no (w : World) (h : Int) (hn : h < 4096 ∨ 4194304 ≤ h) (hl : -9223372036854775808 ≤ h) (hu : h ≤ 9223372036854775807) : Calls Try.prog 22 #[.int .i64 h] w fun e w' => e = .returned (.tuple #[.int .i64 0, .int .i64 0, .int .i64 7]) ∧ Below w.heap.size w w' := by
  by_cases h0 : h < 0
  · exact split_neg w h h0 hl
  · exact split_low w h (by omega) hu
theorem rsplit_yes (w : World) (h : Int) (h0 : 4096 ≤ h) (h1 : h < 4194304) : Calls Try.prog 23 #[.int .i64 h] w fun e w' => e = .returned (.tuple #[.int .i64 (h % 4096), .int .i64 (h / 4096), .int .i64 0]) ∧ w = w' := by
  go_enter Try.func23, Try.ntmps23
  go_wp2
  go_ret3
  exact ⟨rfl, rfl⟩
theorem rsplit_no (w : World) (h : Int) (hn : h < 4096 ∨ 4194304 ≤ h) : Calls Try.prog 23 #[.int .i64 h] w fun e w' => e = .returned (.tuple #[.int .i64 0, .int .i64 0, .int .i64 7]) ∧ w = w' := by
  by_cases h0 : h < 4096
  · clear hn
    go_enter Try.func23, Try.ntmps23
    go_wp2
    go_ret3
    exact ⟨rfl, rfl⟩
  · have h1 : 4194304 ≤ h := by omega
    clear hn
    go_enter Try.func23, Try.ntmps23
    go_wp2
    go_ret3
    exact ⟨rfl, rfl⟩
end Go.Proofs.Ytkbifnbblimnlaa
