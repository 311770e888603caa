/- Contracts of the law's own start (awake), and the walk of MeterNobody: for every world. -/
import Derived.Test.YtjjbglipnpkbmaaSum
namespace Go.Proofs.Ytjjbglipnpkbmaa
open Go.RowKit

theorem awake_any (w : World) : Calls Try.prog 8 #[] w fun e w' => e = .returned (.bool true) ∧ Below w.heap.size w w' := by
  go_enter Try.func8, Try.ntmps8
  go_wp2_with fail
  refine (new_any _).mono ?_
  rintro e w1 ⟨rfl, hw1⟩
  have m1 : IsM w1 w.heap.size 0 0 := by rw [hw1]; exact blk_new _ _
  have b1 : Below w.heap.size w w1 := by rw [hw1]; exact (Below.refl _ _).alloc (Nat.le_refl _) _
  clear hw1
  go_wp2_with fail
  refine (charge_any _ _ 3 0 0 (by omega) (by omega) (by omega) m1).mono ?_
  rintro e w2 ⟨rfl, m2, k2⟩
  have m2 : IsM w2 w.heap.size 3 0 := m2
  have b2 := Below.of_keep b1 k2 b1.size (fun i hi => by omega)
  go_wp2_with fail
  refine (lap_any _ _ 3 0 (by omega) (by omega) (by omega) m2).mono ?_
  rintro e w3 ⟨rfl, m3, k3⟩
  have b3 := Below.of_keep b2 k3 b2.size (fun i hi => by omega)
  go_wp2_with fail
  refine (charge_any _ _ 4 3 3 (by omega) (by omega) (by omega) m3).mono ?_
  rintro e w4 ⟨rfl, m4, k4⟩
  have m4 : IsM w4 w.heap.size 7 3 := m4
  have b4 := Below.of_keep b3 k4 b3.size (fun i hi => by omega)
  go_wp2_with fail
  refine (charge_any _ _ (-1) 7 3 (by omega) (by omega) (by omega) m4).mono ?_
  rintro e w5 ⟨rfl, m5, k5⟩
  have m5 : IsM w5 w.heap.size 7 3 := m5
  have b5 := Below.of_keep b4 k5 b4.size (fun i hi => by omega)
  go_wp2_with fail
  refine (total_any _ _ 7 3 m5).mono ?_
  rintro e w6 ⟨rfl, rfl⟩
  go_wp2_with fail
  refine (lap_any _ _ 7 3 (by omega) (by omega) (by omega) m5).mono ?_
  rintro e w6 ⟨rfl, m6, k6⟩
  have b6 := Below.of_keep b5 k6 b5.size (fun i hi => by omega)
  go_wp2_with fail
  refine (lap_any _ _ 7 7 (by omega) (by omega) (by omega) m6).mono ?_
  rintro e w7 ⟨rfl, m7, k7⟩
  have b7 := Below.of_keep b6 k7 b6.size (fun i hi => by omega)
  go_wp2_with fail
  go_ret
  exact ⟨rfl, b7⟩

theorem nobody_any (w : World) (n : Int) : Calls Try.prog 6 #[.int .i64 n] w fun e w' => e = .returned (.bool true) ∧ Below w.heap.size w w' := by
  go_enter Try.func6, Try.ntmps6
  go_wp2_with fail
  refine (awake_any _).mono ?_
  rintro e w1 ⟨rfl, b1⟩
  go_wp2_with fail
  refine (charge_nil _ _).mono ?_
  rintro e w2 ⟨rfl, rfl⟩
  go_wp2_with fail
  refine (total_nil _).mono ?_
  rintro e w2 ⟨rfl, rfl⟩
  go_wp2_with fail
  refine (lap_nil _).mono ?_
  rintro e w3 ⟨rfl, k3⟩
  go_wp2_with fail
  go_ret
  exact ⟨rfl, Below.of_keep b1 k3 b1.size (fun i hi => hi.elim)⟩
end Go.Proofs.Ytjjbglipnpkbmaa
