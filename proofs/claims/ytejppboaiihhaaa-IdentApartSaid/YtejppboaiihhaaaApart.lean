/- The walk of IdentApart: for all arguments, in every world, it answers true and changes nothing that was there. -/
import Derived.Test.YtejppboaiihhaaaLaws
namespace Go.Proofs.Ytejppboaiihhaaa
open Go.RowKit

set_option maxHeartbeats 1000000 in
theorem apart_any (w : World) (a0 a1 b0 b1 : Int) (ha0 : 0 ≤ a0 ∧ a0 ≤ 65535) (ha1 : 0 ≤ a1 ∧ a1 ≤ 65535) (hb0 : 0 ≤ b0 ∧ b0 ≤ 65535) (hb1 : 0 ≤ b1 ∧ b1 ≤ 65535) :
    Calls Try.prog 7 #[.agg #[.int .u16 a0, .int .u16 a1], .agg #[.int .u16 b0, .int .u16 b1]] w fun e w' => e = .returned (.bool true) ∧ Below w.heap.size w w' := by
  obtain ⟨s, hs⟩ : ∃ s, s = a0 % 4096 := ⟨_, rfl⟩
  obtain ⟨g, hg⟩ : ∃ g, g = 1 + a1 % 1023 := ⟨_, rfl⟩
  obtain ⟨t, ht⟩ : ∃ s, s = b0 % 4096 := ⟨_, rfl⟩
  obtain ⟨k, hk⟩ : ∃ g, g = 1 + b1 % 1023 := ⟨_, rfl⟩
  have h : 0 ≤ s ∧ s ≤ 4095 ∧ 1 ≤ g ∧ g ≤ 1023 := by omega
  have h' : 0 ≤ t ∧ t ≤ 4095 ∧ 1 ≤ k ∧ k ≤ 1023 := by omega
  have hs' := hs.symm
  have hg' := hg.symm
  have ht' := ht.symm
  have hk' := hk.symm
  clear hs hg ht hk
  go_enter Try.func7, Try.ntmps7
  go_wp2_with fail
  refine (awake_any _).mono ?_
  rintro e w1 ⟨rfl, d1⟩
  have x0 := below_blk d1 (blk_alloc (blk_new w _) _) (by simp; omega)
  have x1 := below_blk d1 (blk_new (w.alloc _) _) (by simp)
  have c1 : Below w.heap.size w w1 := (((Below.refl _ _).alloc (Nat.le_refl _) _).alloc (by simp) _).trans (d1.mono (by simp; omega))
  simp only [World.size_alloc] at x1
  have y0 : w1.cell? ⟨w.heap.size, 0, none⟩ = some (.int .u16 a0) := blk_cell x0 0
  have y1 : w1.cell? ⟨w.heap.size, 1, none⟩ = some (.int .u16 a1) := blk_cell x0 1
  have z0 : w1.cell? ⟨w.heap.size + 1, 0, none⟩ = some (.int .u16 b0) := blk_cell x1 0
  have z1 : w1.cell? ⟨w.heap.size + 1, 1, none⟩ = some (.int .u16 b1) := blk_cell x1 1
  clear d1 x0 x1
  go_wp2_with fail
  refine (join_yes _ s g h).mono ?_
  rintro e w2 ⟨rfl, b2⟩
  have c2 := below_after c1 b2 c1.size
  go_wp2_with fail
  refine (join_yes _ t k h').mono ?_
  rintro e w3 ⟨rfl, b3⟩
  have c3 := below_after c2 b3 c2.size
  clear hs' hg' ht' hk' y0 y1 z0 z1
  by_cases e1 : s = t
  · subst e1
    by_cases e2 : g = k
    · subst e2
      go_wp2_with fail
      go_ret
      exact ⟨by simp, c3⟩
    · have n1 : (g * 4096 + s == k * 4096 + s) = false := beq_eq_false_iff_ne.2 (by omega)
      have n2 : (g == k) = false := beq_eq_false_iff_ne.2 e2
      go_wp2_with fail
      all_goals go_ret
      all_goals exact ⟨by first | (simp; done) | (simp; omega), c3⟩
  · have n1 : (g * 4096 + s == k * 4096 + t) = false := beq_eq_false_iff_ne.2 (by omega)
    have n2 : (s == t) = false := beq_eq_false_iff_ne.2 e1
    go_wp2_with fail
    all_goals go_ret
    all_goals exact ⟨by first | (simp; done) | (simp; omega), c3⟩
end Go.Proofs.Ytejppboaiihhaaa
