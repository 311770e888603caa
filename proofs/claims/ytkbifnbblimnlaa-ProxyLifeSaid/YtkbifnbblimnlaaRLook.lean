/- The contracts of the reference's Look and Lives. -/
import Derived.Test.YtkbifnbblimnlaaRWith
namespace Go.Proofs.Ytkbifnbblimnlaa
open Go.RowKit
set_option linter.unusedVariables false
attribute [local go_sem] Oper.semAt_some

theorem rlook_any (B : Nat → Prop) (w : World) (v : Value) (n : Nat) (gens : Int) (gn : Nat → Int) (lv : Nat → Bool) (fr : List Nat) (h : Int) (hr : RT B w v n gens gn lv fr) :
    Calls Try.prog 11 #[v, .int .i64 h] w fun e w' => e = .returned (.tuple #[.int .i64 (lookS n lv gn h).1, .int .i64 (lookS n lv gn h).2]) ∧ Below w.heap.size w w' := by
  obtain ⟨a1, c1, a2, c2, a3, c3, rfl, k1, k2, k3⟩ := hr.val
  have K1 := Lib.hid k1
  have K2 := Lib.hid k2
  clear k1 k2 k3 hr
  have hB : Below w.heap.size w (w.alloc (.cells #[.slice a1 n c1, .slice a2 n c2, .slice a3 fr.length c3, .int .i64 gens] 29)) := (Below.refl _ _).alloc (Nat.le_refl _) _
  have HB := Lib.hid hB
  clear hB
  by_cases h1 : h < 4096 ∨ 4194304 ≤ h
  · have HL := Lib.hid (lookS_out (n := n) (lv := lv) (gn := gn) h1)
    have H1 := Lib.hid h1
    clear h1
    go_enter Try.func11, Try.ntmps11
    go_wp2_with fail
    refine (rsplit_no _ h H1.out).mono ?_
    rintro e w1 ⟨rfl, rfl⟩
    go_wp2_with fail
    go_ret2
    rw [HL.out]
    exact ⟨rfl, HB.out⟩
  obtain ⟨s, hs⟩ : ∃ s : Nat, h % 4096 = s := ⟨(h % 4096).toNat, by omega⟩
  obtain ⟨q, hq⟩ : ∃ q : Int, h / 4096 = q := ⟨_, rfl⟩
  have hq0 : 1 ≤ q ∧ q ≤ 1023 := by omega
  by_cases h2 : (n : Int) ≤ s
  · have HL := Lib.hid (lookS_far (n := n) (lv := lv) (gn := gn) h1 (by rw [hs]; exact h2))
    have H1 := Lib.hid h1
    have Hs := Lib.hid hs
    have Hq := Lib.hid hq
    clear h1 hs hq
    go_enter Try.func11, Try.ntmps11
    go_wp2_with fail
    refine (rsplit_yes _ h (by have := H1.out; omega) (by have := H1.out; omega)).mono ?_
    rw [Hs.out, Hq.out]
    rintro e w1 ⟨rfl, rfl⟩
    go_wp2_with fail
    go_ret2
    rw [HL.out]
    exact ⟨rfl, HB.out⟩
  have hsn : s < n := by omega
  have E1 := K1.out.elemS (icol_get gn n s hsn)
  have E2 := K2.out.elemS (bcol_get lv n s hsn)
  obtain ⟨b1, o1, rfl, hd1, hm1, x1⟩ := E1
  obtain ⟨b2, o2, rfl, hd2, hm2, x2⟩ := E2
  have y1 := x1 _ HB.out
  have y2 := x2 _ HB.out
  have HL := Lib.hid (lookS_in (lv := lv) (gn := gn) h1 hs hsn)
  obtain ⟨g, hg⟩ : ∃ g, g = gn s := ⟨_, rfl⟩
  obtain ⟨l, hl⟩ : ∃ l, l = lv s := ⟨_, rfl⟩
  rw [← hg] at y1 HL
  rw [← hl] at y2 HL
  have H1 := Lib.hid h1
  have Hs := Lib.hid hs
  have Hq := Lib.hid hq
  rw [hq] at HL
  clear h1 hs hq hg hl x1 x2
  by_cases c1 : g < q
  · have HL2 : Hid (lookS n lv gn h = (0, 7)) := Lib.hid (by rw [HL.out, if_neg (by omega), if_pos (.inl c1)])
    go_enter Try.func11, Try.ntmps11
    go_wp2_with fail
    refine (rsplit_yes _ h (by have := H1.out; omega) (by have := H1.out; omega)).mono ?_
    rw [Hs.out, Hq.out]
    rintro e w1 ⟨rfl, rfl⟩
    go_wp2_with fail
    go_ret2
    rw [HL2.out]
    exact ⟨rfl, HB.out⟩
  by_cases c2 : q < g
  · have HL2 : Hid (lookS n lv gn h = (0, 6)) := Lib.hid (by rw [HL.out, if_pos c2])
    have e0 : (g == q) = false := beq_eq_false_iff_ne.2 (by omega)
    go_enter Try.func11, Try.ntmps11
    go_wp2_with fail
    refine (rsplit_yes _ h (by have := H1.out; omega) (by have := H1.out; omega)).mono ?_
    rw [Hs.out, Hq.out]
    rintro e w1 ⟨rfl, rfl⟩
    go_wp2_with fail
    go_ret2
    rw [HL2.out]
    exact ⟨rfl, HB.out⟩
  obtain rfl : g = q := by omega
  cases l
  · have HL2 : Hid (lookS n lv gn h = (0, 7)) := Lib.hid (by rw [HL.out, if_neg (by omega), if_pos (.inr rfl)])
    go_enter Try.func11, Try.ntmps11
    go_wp2_with fail
    refine (rsplit_yes _ h (by have := H1.out; omega) (by have := H1.out; omega)).mono ?_
    rw [Hs.out, Hq.out]
    rintro e w1 ⟨rfl, rfl⟩
    go_wp2_with fail
    go_ret2
    rw [HL2.out]
    exact ⟨rfl, HB.out⟩
  · have HL2 : Hid (lookS n lv gn h = ((s : Int), 0)) := Lib.hid (by rw [HL.out, if_neg (by omega), if_neg (by simp)])
    go_enter Try.func11, Try.ntmps11
    go_wp2_with fail
    refine (rsplit_yes _ h (by have := H1.out; omega) (by have := H1.out; omega)).mono ?_
    rw [Hs.out, Hq.out]
    rintro e w1 ⟨rfl, rfl⟩
    go_wp2_with fail
    go_ret2
    rw [HL2.out]
    exact ⟨rfl, HB.out⟩

theorem lives_le (lv : Nat → Bool) : ∀ n, lives lv n ≤ n
  | 0 => Nat.le_refl _
  | k + 1 => by
    simp only [lives]
    have := lives_le lv k
    split <;> omega
theorem rlives_any (B : Nat → Prop) (w : World) (v : Value) (n : Nat) (gens : Int) (gn : Nat → Int) (lv : Nat → Bool) (fr : List Nat) (hn : n ≤ 4096) (hr : RT B w v n gens gn lv fr) :
    Calls Try.prog 14 #[v] w fun e w' => e = .returned (.int .i64 (lives lv n)) ∧ Below w.heap.size w w' := by
  obtain ⟨a1, c1, a2, c2, a3, c3, rfl, k1, k2, k3⟩ := hr.val
  have K2 := Lib.hid k2
  clear k1 k2 k3 hr
  have hB : Below w.heap.size w (w.alloc (.cells #[.slice a1 n c1, .slice a2 n c2, .slice a3 fr.length c3, .int .i64 gens] 29)) := (Below.refl _ _).alloc (Nat.le_refl _) _
  have HB := Lib.hid hB
  clear hB
  go_enter Try.func14, Try.ntmps14
  go_wp2_with fail
  go_loop [3, 4] (fun a v => ∃ k : Nat, v = .int .i64 k ∧ a = .int .i64 (lives lv k) ∧ k ≤ n) (fun _ v => n - (intOf v).toNat)
  case atStart => exact ⟨0, rfl, rfl, Nat.zero_le _⟩
  case round =>
    obtain ⟨k, rfl, rfl, hk⟩ := hrel
    have hlk := lives_le lv k
    by_cases hlt : k < n
    · have E2 := K2.out.elemS (bcol_get lv n k hlt)
      obtain ⟨b2, o2, rfl, hd2, hm2, x2⟩ := E2
      have y2 := x2 _ HB.out
      have hls : lives lv (k + 1) = lives lv k + (if lv k then 1 else 0) := rfl
      obtain ⟨l, hl⟩ : ∃ l, l = lv k := ⟨_, rfl⟩
      obtain ⟨q, hq⟩ : ∃ q, q = lives lv k := ⟨_, rfl⟩
      rw [← hl] at y2 hls
      rw [← hq] at hls hlk ⊢
      have Hls := Lib.hid hls
      clear hls hl hq x2
      cases l
      · go_wp2_with fail
        go_round
        case rel => exact ⟨k + 1, by go_num, by rw [Hls.out]; simp, hlt⟩
        case measure => simp [intOf]; omega
      · go_wp2_with fail
        go_round
        case rel => exact ⟨k + 1, by go_num, by rw [Hls.out]; go_num, hlt⟩
        case measure => simp [intOf]; omega
    · obtain rfl : k = n := by omega
      go_wp2_with fail
      go_ret
      exact ⟨rfl, HB.out⟩
end Go.Proofs.Ytkbifnbblimnlaa
