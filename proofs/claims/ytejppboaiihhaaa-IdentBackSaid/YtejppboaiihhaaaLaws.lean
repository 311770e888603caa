/- The walks of the laws of package ident: for all arguments, in every world, each answers true and changes nothing that was there. -/
import Derived.Test.YtejppboaiihhaaaIdent
namespace Go.Proofs.Ytejppboaiihhaaa
open Go.RowKit


theorem joins_any (w : World) (s g : Int) : Calls Try.prog 3 #[.int .i64 s, .int .i64 g] w fun e w' => e = .returned (.bool true) ∧ Below w.heap.size w w' := by
  go_enter Try.func3, Try.ntmps3
  go_wp2_with fail
  refine (awake_any _).mono ?_
  rintro e w1 ⟨rfl, b1⟩
  by_cases h : 0 ≤ s ∧ s ≤ 4095 ∧ 1 ≤ g ∧ g ≤ 1023
  · go_wp2_with fail
    refine (join_yes _ s g h).mono ?_
    rintro e w2 ⟨rfl, b2⟩
    have c2 := below_after b1 b2 b1.size
    go_wp2_with fail
    refine (rjoin_yes _ s g h).mono ?_
    rintro e w3 ⟨rfl, rfl⟩
    go_wp2_with fail
    go_ret
    exact ⟨by simp, c2⟩
  · have H := Lib.hid h
    clear h
    go_wp2_with fail
    refine (join_no _ s g H.out).mono ?_
    rintro e w2 ⟨rfl, b2⟩
    have c2 := below_after b1 b2 b1.size
    go_wp2_with fail
    refine (rjoin_no _ s g H.out).mono ?_
    rintro e w3 ⟨rfl, rfl⟩
    go_wp2_with fail
    go_ret
    exact ⟨by simp, c2⟩

theorem splits_any (w : World) (h : Int) (hl : -9223372036854775808 ≤ h) (hu : h ≤ 9223372036854775807) : Calls Try.prog 4 #[.int .i64 h] w fun e w' => e = .returned (.bool true) ∧ Below w.heap.size w w' := by
  go_enter Try.func4, Try.ntmps4
  go_wp2_with fail
  refine (awake_any _).mono ?_
  rintro e w1 ⟨rfl, b1⟩
  by_cases h0 : 4096 ≤ h ∧ h < 4194304
  · go_wp2_with fail
    refine (split_yes _ h h0.1 h0.2).mono ?_
    rintro e w2 ⟨rfl, b2⟩
    have c2 := below_after b1 b2 b1.size
    go_wp2_with fail
    refine (rsplit_yes _ h h0.1 h0.2).mono ?_
    rintro e w3 ⟨rfl, rfl⟩
    go_wp2_with fail
    go_ret
    exact ⟨by simp, c2⟩
  · have H : Hid (h < 4096 ∨ 4194304 ≤ h) := by show _ ∨ _; omega
    clear h0
    go_wp2_with fail
    refine (split_no _ h H.out hl hu).mono ?_
    rintro e w2 ⟨rfl, b2⟩
    have c2 := below_after b1 b2 b1.size
    go_wp2_with fail
    refine (rsplit_no _ h H.out).mono ?_
    rintro e w3 ⟨rfl, rfl⟩
    go_wp2_with fail
    go_ret
    exact ⟨by simp, c2⟩

theorem back_any (w : World) (a b : Int) (ha : 0 ≤ a ∧ a ≤ 65535) (hb : 0 ≤ b ∧ b ≤ 65535) : Calls Try.prog 5 #[.int .u16 a, .int .u16 b] w fun e w' => e = .returned (.bool true) ∧ Below w.heap.size w w' := by
  obtain ⟨s, hs⟩ : ∃ s, s = a % 4096 := ⟨_, rfl⟩
  obtain ⟨g, hg⟩ : ∃ g, g = 1 + b % 1023 := ⟨_, rfl⟩
  have h : 0 ≤ s ∧ s ≤ 4095 ∧ 1 ≤ g ∧ g ≤ 1023 := by omega
  have e1 : (g * 4096 + s) % 4096 = s := by omega
  have e2 : (g * 4096 + s) / 4096 = g := by omega
  have h1 : 4096 ≤ g * 4096 + s := by omega
  have h2 : g * 4096 + s < 4194304 := by omega
  have hs' := hs.symm
  have hg' := hg.symm
  clear hs hg
  go_enter Try.func5, Try.ntmps5
  go_wp2_with fail
  refine (awake_any _).mono ?_
  rintro e w1 ⟨rfl, b1⟩
  go_wp2_with fail
  refine (join_yes _ s g h).mono ?_
  rintro e w2 ⟨rfl, b2⟩
  have c2 := below_after b1 b2 b1.size
  go_wp2_with fail
  refine (split_yes _ _ h1 h2).mono ?_
  rintro e w3 ⟨rfl, b3⟩
  have c3 := below_after c2 b3 c2.size
  rw [e1, e2]
  go_wp2_with fail
  go_ret
  exact ⟨by simp, c3⟩

theorem one_any (w : World) (h : Int) (hl : -9223372036854775808 ≤ h) (hu : h ≤ 9223372036854775807) : Calls Try.prog 6 #[.int .i64 h] w fun e w' => e = .returned (.bool true) ∧ Below w.heap.size w w' := by
  go_enter Try.func6, Try.ntmps6
  go_wp2_with fail
  refine (awake_any _).mono ?_
  rintro e w1 ⟨rfl, b1⟩
  by_cases h0 : 4096 ≤ h ∧ h < 4194304
  · have e1 : h / 4096 * 4096 + h % 4096 = h := by omega
    go_wp2_with fail
    refine (split_yes _ h h0.1 h0.2).mono ?_
    rintro e w2 ⟨rfl, b2⟩
    have c2 := below_after b1 b2 b1.size
    go_wp2_with fail
    refine (join_yes _ (h % 4096) (h / 4096) (by omega)).mono ?_
    rintro e w3 ⟨rfl, b3⟩
    have c3 := below_after c2 b3 c2.size
    rw [e1]
    go_wp2_with fail
    go_ret
    exact ⟨by simp, c3⟩
  · have H : Hid (h < 4096 ∨ 4194304 ≤ h) := by show _ ∨ _; omega
    clear h0
    go_wp2_with fail
    refine (split_no _ h H.out hl hu).mono ?_
    rintro e w2 ⟨rfl, b2⟩
    have c2 := below_after b1 b2 b1.size
    go_wp2_with fail
    go_ret
    exact ⟨by simp, c2⟩
end Go.Proofs.Ytejppboaiihhaaa
