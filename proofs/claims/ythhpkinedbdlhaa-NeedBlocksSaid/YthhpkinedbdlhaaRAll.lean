/- The contracts of the reference's bounds (almeryref16, almeryref17.Is). -/
import Derived.Test.YthhpkinedbdlhaaConf
import Derived.Test.YthhpkinedbdlhaaChainAll
import Derived.Test.YthhpkinedbdlhaaRMany
namespace Go.Proofs.Ythhpkinedbdlhaa
open Go.RowKit
set_option linter.unusedVariables false

theorem rdata_any (w : World) (n b : Int) (hn2 : n ≤ 9223372036854775807) : Calls Try.prog 37 #[.int .i64 n, .int .i64 b] w fun e w' => e = .returned (.int .i64 (manyS n b)) ∧ w = w' := by
  go_enter Try.func37, Try.ntmps37
  go_wp2_with fail
  refine (rmany_any w n b hn2).mono ?_
  rintro e w1 ⟨rfl, rfl⟩
  go_wp2_with fail
  go_ret
  exact ⟨rfl, rfl⟩
theorem rall_any (w : World) (n b : Int) (hn2 : n ≤ 9223372036854775807) : Calls Try.prog 18 #[.int .i64 n, .int .i64 b] w fun e w' => e = .returned (.int .i64 (allS n b)) ∧ w = w' := by
  have hr := manyS_range n b hn2
  have HD := Lib.hid (fun w => rdata_any w n b hn2)
  unfold allS
  generalize manyS n b = m at hr HD ⊢
  by_cases h1 : m = 0
  · subst h1
    rw [if_pos (.inl rfl)]
    go_enter Try.func18, Try.ntmps18
    go_wp2_with fail
    refine (HD.out w).mono ?_
    rintro e w1 ⟨rfl, rfl⟩
    go_wp2_with fail
    go_ret
    exact ⟨rfl, rfl⟩
  · by_cases h2 : m = 9223372036854775807
    · subst h2
      rw [if_pos (.inr rfl)]
      go_enter Try.func18, Try.ntmps18
      go_wp2_with fail
      refine (HD.out w).mono ?_
      rintro e w1 ⟨rfl, rfl⟩
      go_wp2_with fail
      refine (HD.out w).mono ?_
      rintro e w1 ⟨rfl, rfl⟩
      go_wp2_with fail
      go_ret
      exact ⟨rfl, rfl⟩
    · rw [if_neg (by omega)]
      have e1 : (m == 0) = false := beq_eq_false_iff_ne.2 h1
      have e2 : (m == 9223372036854775807) = false := beq_eq_false_iff_ne.2 h2
      go_enter Try.func18, Try.ntmps18
      go_wp2_with fail
      refine (HD.out w).mono ?_
      rintro e w1 ⟨rfl, rfl⟩
      go_wp2_with fail
      refine (HD.out w).mono ?_
      rintro e w1 ⟨rfl, rfl⟩
      go_wp2_with fail
      refine (HD.out w).mono ?_
      rintro e w1 ⟨rfl, rfl⟩
      go_wp2_with fail
      go_ret
      exact ⟨rfl, rfl⟩
theorem ris_any (w : World) (v : Value) (c : Cf) (n : Int) (h : CV w v c) : Calls Try.prog 16 #[v, .int .i64 n] w fun e w' => e = .returned (.bool (decide (1 ≤ n ∧ n ≤ c.most))) ∧ Below w.heap.size w w' := by
  have H := Lib.hid h
  obtain ⟨ac, cc, ak, ck, rfl, h1, h2⟩ := h
  have B0 := Lib.hid ((Below.refl w.heap.size w).alloc (Nat.le_refl _) (.cells #[.int .i64 c.size, .int .i64 c.pages, .slice ac c.classes.length cc, .slice ak c.keep.length ck, .int .i64 c.step, .int .i64 c.slots, .int .i64 c.gens, .int .i64 c.most] 24))
  have X0 := Lib.hid (blk_new w (.cells #[.int .i64 c.size, .int .i64 c.pages, .slice ac c.classes.length cc, .slice ak c.keep.length ck, .int .i64 c.step, .int .i64 c.slots, .int .i64 c.gens, .int .i64 c.most] 24))
  clear h1 h2
  by_cases g1 : 1 ≤ n
  · by_cases g2 : n ≤ c.most
    · rw [decide_eq_true (show 1 ≤ n ∧ n ≤ c.most from ⟨g1, g2⟩)]
      go_enter Try.func16, Try.ntmps16
      go_wp2_with fail
      go_ret
      exact ⟨rfl, B0.out⟩
    · rw [decide_eq_false (show ¬ (1 ≤ n ∧ n ≤ c.most) from fun h => g2 h.2)]
      go_enter Try.func16, Try.ntmps16
      go_wp2_with fail
      go_ret
      exact ⟨rfl, B0.out⟩
  · rw [decide_eq_false (show ¬ (1 ≤ n ∧ n ≤ c.most) from fun h => g1 h.1)]
    go_enter Try.func16, Try.ntmps16
    go_wp2_with fail
    go_ret
    exact ⟨rfl, B0.out⟩
end Go.Proofs.Ythhpkinedbdlhaa
