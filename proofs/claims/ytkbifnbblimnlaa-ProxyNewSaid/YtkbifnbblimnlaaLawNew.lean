/- The walk through the law ProxyNew. -/
import Derived.Test.YtkbifnbblimnlaaRNew
import Derived.Test.YtkbifnbblimnlaaAwake
namespace Go.Proofs.Ytkbifnbblimnlaa
open Go.RowKit
set_option linter.unusedVariables false

theorem newLaw_any (w : World) (n g : Int) (hl : -9223372036854775808 ≤ n ∧ n ≤ 9223372036854775807) : Calls Try.prog 4 #[.int .i64 n, .int .i64 g] w fun e w' => e = .returned (.bool true) ∧ Below w.heap.size w w' := by
  by_cases h : n < 1 ∨ 4096 < n ∨ g < 1 ∨ 1023 < g
  · have H := Lib.hid h
    clear h
    go_enter Try.func4, Try.ntmps4
    go_wp2_with fail
    refine (awake_ok w).mono ?_
    rintro e w1 ⟨rfl, b1⟩
    have B1 := Lib.hid b1
    clear b1
    go_wp2_with fail
    refine (new_bad w1 n g H.out).mono ?_
    rintro e w2 ⟨rfl, rfl⟩
    go_wp2_with fail
    refine (rnew_bad w1 n g H.out).mono ?_
    rintro e w2 ⟨rfl, b2⟩
    have B2 := Lib.hid ((B1.out.trans (b2.mono B1.out.size)).alloc (Nat.le_trans B1.out.size b2.size) (.cells #[.slice none 0 0, .slice none 0 0, .slice none 0 0, .int .i64 0] 29))
    clear b2
    go_wp2_with fail
    go_ret
    exact ⟨rfl, B2.out⟩
  · obtain ⟨m, rfl⟩ : ∃ m : Nat, n = m := ⟨n.toNat, by omega⟩
    have hm : 1 ≤ m ∧ m ≤ 4096 ∧ 1 ≤ g ∧ g ≤ 1023 := by omega
    have H := Lib.hid hm
    clear h
    go_enter Try.func4, Try.ntmps4
    go_wp2_with fail
    refine (awake_ok w).mono ?_
    rintro e w1 ⟨rfl, b1⟩
    have B1 := Lib.hid b1
    clear b1
    go_wp2_with fail
    refine (ta_new w1 m g H.out.1 H.out.2.1 H.out.2.2.1 H.out.2.2.2).mono ?_
    rintro e w2 ⟨gt, gs, rfl, hg, hgs, t, b⟩
    have T := Lib.hid t
    have B2 := Lib.hid (B1.out.trans (b.mono B1.out.size))
    clear t b hg hgs
    go_wp2_with fail
    refine (rnew_any w2 m g H.out.1 H.out.2.1 H.out.2.2.1 H.out.2.2.2).mono ?_
    rintro e w3 ⟨v, rfl, r, b3⟩
    obtain ⟨a1, c1, a2, c2, a3, c3, rfl, k1, k2, k3⟩ := r.val
    have B3 := Lib.hid ((B2.out.trans (b3.mono B2.out.size)).alloc (Nat.le_trans B2.out.size b3.size) (.cells #[.slice a1 m c1, .slice a2 m c2, .slice a3 m c3, .int .i64 g] 29))
    have T3 := Lib.hid ((T.out.below b3).below ((Below.refl w3.heap.size w3).alloc (Nat.le_refl _) (.cells #[.slice a1 m c1, .slice a2 m c2, .slice a3 m c3, .int .i64 g] 29)))
    clear k1 k2 k3 r b3 T
    go_wp2_with fail
    refine (ta_left _ gt gs m g _ _ _ T3.out).mono ?_
    rintro e w4 ⟨rfl, rfl⟩
    rw [List.length_range]
    go_wp2_with fail
    refine (ta_live _ gt gs m g _ _ _ T3.out).mono ?_
    rintro e w4 ⟨rfl, rfl⟩
    rw [lives_none]
    go_wp2_with fail
    go_ret
    exact ⟨rfl, B3.out⟩
end Go.Proofs.Ytkbifnbblimnlaa
