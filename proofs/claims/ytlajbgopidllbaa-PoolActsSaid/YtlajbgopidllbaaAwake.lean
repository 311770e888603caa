/- The laws' own start (awake), and the law PoolNobody. -/
import Derived.Test.YtlajbgopidllbaaNew
namespace Go.Proofs.Ytlajbgopidllbaa
open Go.RowKit

set_option maxHeartbeats 2000000 in
theorem awake_any (w : World) : Calls Try.prog 8 #[] w fun e w' => e = .returned (.bool true) ∧ Below w.heap.size w w' := by
  go_enter Try.func8, Try.ntmps8
  go_wp2_with fail
  refine (pa_new _ 3 (by omega) (by omega)).mono ?_
  rintro e w1 ⟨g, gp, rfl, hg, hgp, p1, b1⟩
  have K1 : Keep (fun k => w.heap.size ≤ k) w w1 := Keep.of_below b1
  have P1 := Lib.hid p1
  clear p1
  go_wp2_with fail
  refine (pa_take _ g gp 3 0 [1, 2] _ 7 P1.out (by omega)).mono ?_
  rintro e w2 ⟨rfl, p2, k2⟩
  have P2 := Lib.hid p2
  clear p2
  go_wp2_with fail
  refine (pa_take _ g gp 3 1 [2] _ 8 P2.out (by omega)).mono ?_
  rintro e w3 ⟨rfl, p3, k3⟩
  have P3 := Lib.hid p3
  clear p3
  go_wp2_with fail
  refine (pa_give _ g gp 3 0 [2] _ P3.out (by omega) (by decide)).mono ?_
  rintro e w4 ⟨rfl, p4, k4⟩
  have P4 := Lib.hid p4
  clear p4
  go_wp2_with fail
  refine (pa_give_none _ g gp 3 0 [0, 2] _ P4.out (by omega) (by decide)).mono ?_
  rintro e w5 ⟨rfl, rfl⟩
  go_wp2_with fail
  refine (pa_take _ g gp 3 0 [2] _ 9 P4.out (by omega)).mono ?_
  rintro e w5 ⟨rfl, p5, k5⟩
  have P5 := Lib.hid p5
  clear p5
  go_wp2_with fail
  refine (pa_take _ g gp 3 2 [] _ 9 P5.out (by omega)).mono ?_
  rintro e w6 ⟨rfl, p6, k6⟩
  have P6 := Lib.hid p6
  clear p6
  go_wp2_with fail
  refine (pa_take_none _ g gp 3 _ 9 P6.out (by omega)).mono ?_
  rintro e w7 ⟨rfl, k7⟩
  have P7 := Lib.hid (P6.out.keep k7 (fun h => h) (fun h => h))
  go_wp2_with fail
  refine (pa_owner _ g gp 3 _ _ 1 P7.out).mono ?_
  rintro e w8 ⟨rfl, rfl⟩
  rw [show ownS 3 _ 1 = 8 from rfl]
  go_wp2_with fail
  refine (pa_free _ g gp 3 _ _ P7.out).mono ?_
  rintro e w8 ⟨rfl, k8⟩
  have P8 := Lib.hid (P7.out.keep k8 (fun h => h) (fun h => h))
  go_wp2_with fail
  refine (pa_held _ g gp 3 _ _ P8.out).mono ?_
  rintro e w9 ⟨rfl, rfl⟩
  go_wp2_with fail
  go_ret
  refine ⟨rfl, ?_⟩
  have hS : ∀ i, (i = g ∨ i = gp) → w.heap.size ≤ i ∨ w.heap.size ≤ i := fun i h => .inl (by rcases h with rfl | rfl; exact hg; exact hgp)
  exact ((((((((K1.then k2 hS).then k3 hS).then k4 hS).then k5 hS).then k6 hS).then k7 (fun _ h => h.elim)).then k8 (fun _ h => h.elim))).below (fun k hk h => by omega)

theorem lawNobody_any (w : World) (n : Int) : Calls Try.prog 7 #[.int .i64 n] w fun e w' => e = .returned (.bool true) ∧ Below w.heap.size w w' := by
  go_enter Try.func7, Try.ntmps7
  go_wp2_with fail
  refine (awake_any _).mono ?_
  rintro e w1 ⟨rfl, b1⟩
  go_wp2_with fail
  refine (take_nil _ n).mono ?_
  rintro e w2 ⟨rfl, rfl⟩
  go_wp2_with fail
  refine (give_nil _ n).mono ?_
  rintro e w2 ⟨rfl, rfl⟩
  go_wp2_with fail
  refine (owner_nil _ n).mono ?_
  rintro e w2 ⟨rfl, rfl⟩
  go_wp2_with fail
  refine (free_nil _).mono ?_
  rintro e w2 ⟨rfl, rfl⟩
  go_wp2_with fail
  refine (held_nil _).mono ?_
  rintro e w2 ⟨rfl, rfl⟩
  go_wp2_with fail
  go_ret
  exact ⟨rfl, b1⟩
end Go.Proofs.Ytlajbgopidllbaa
