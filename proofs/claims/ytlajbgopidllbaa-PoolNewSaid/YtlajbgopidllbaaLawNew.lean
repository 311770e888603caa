/- The walk through the law PoolNew. -/
import Derived.Test.YtlajbgopidllbaaRef
namespace Go.Proofs.Ytlajbgopidllbaa
open Go.RowKit
attribute [local go_sem] Oper.semAt_some

theorem lawNew_any (w : World) (n : Int) : Calls Try.prog 4 #[.int .i64 n] w fun e w' => e = .returned (.bool true) ∧ Below w.heap.size w w' := by
  by_cases h : n < 1 ∨ 1024 < n
  · have H := Lib.hid h
    clear h
    go_enter Try.func4, Try.ntmps4
    go_wp2_with fail
    refine (awake_any _).mono ?_
    rintro e w1 ⟨rfl, b1⟩
    go_wp2_with fail
    refine (new_bad _ n H.out).mono ?_
    rintro e w2 ⟨rfl, rfl⟩
    go_wp2_with fail
    refine (rnew_bad _ n H.out).mono ?_
    rintro e w2 ⟨rfl, b2⟩
    go_wp2_with fail
    go_ret
    exact ⟨rfl, (below_after b1 b2 b1.size).alloc (Nat.le_trans b1.size b2.size) _⟩
  · obtain ⟨m, rfl⟩ : ∃ m : Nat, n = m := ⟨n.toNat, by omega⟩
    have h1 : 1 ≤ m ∧ m ≤ 1024 := by omega
    clear h
    go_enter Try.func4, Try.ntmps4
    go_wp2_with fail
    refine (awake_any _).mono ?_
    rintro e w1 ⟨rfl, b1⟩
    go_wp2_with fail
    refine (pa_new _ m h1.1 h1.2).mono ?_
    rintro e w2 ⟨g, gp, rfl, hg, hgp, p2, b2⟩
    have P2 := Lib.hid p2
    clear p2
    go_wp2_with fail
    refine (rnew_any _ m h1.1 h1.2).mono ?_
    rintro e w3 ⟨v, rfl, ⟨_, _, rfl, ⟨ao, co, rfl, _⟩, ⟨af, cf, rfl, _⟩⟩, b3⟩
    have P3 := Lib.hid (P2.out.below b3)
    have b4 : Below w.heap.size w w3 := below_after (below_after b1 b2 b1.size) b3 (Nat.le_trans b1.size b2.size)
    have P4 := Lib.hid (P3.out.below ((Below.refl _ _).alloc (Nat.le_refl _) (.cells #[.slice ao (ones m).length co, .slice af (upto m).length cf] 27)))
    have b5 : Below w.heap.size w (w3.alloc (.cells #[.slice ao (ones m).length co, .slice af (upto m).length cf] 27)) := b4.alloc b4.size _
    go_wp2_with fail
    refine (pa_free _ g gp m _ _ P4.out).mono ?_
    rintro e w4 ⟨rfl, k4⟩
    have P5 := Lib.hid (P4.out.keep k4 (fun h => h) (fun h => h))
    have b6 := below_keep b5 k4 b5.size (fun _ h => h.elim)
    rw [List.length_range]
    go_wp2_with fail
    refine (pa_held _ g gp m _ _ P5.out).mono ?_
    rintro e w5 ⟨rfl, rfl⟩
    rw [List.length_range, show (m : Int) - (m : Int) = 0 from by omega]
    go_wp2_with fail
    refine (pa_owner _ g gp m _ _ 0 P5.out).mono ?_
    rintro e w5 ⟨rfl, rfl⟩
    rw [show ownS m (osK m) 0 = -1 from by unfold ownS osK; rw [if_neg (by omega), if_pos (by omega)]]
    go_wp2_with fail
    refine (pa_owner _ g gp m _ _ ((m : Int) - 1) P5.out).mono ?_
    rintro e w5 ⟨rfl, rfl⟩
    rw [show ownS m (osK m) ((m : Int) - 1) = -1 from by unfold ownS osK; rw [if_neg (by omega), if_pos (by omega)]]
    go_wp2_with fail
    go_ret
    exact ⟨rfl, b6⟩
end Go.Proofs.Ytlajbgopidllbaa
