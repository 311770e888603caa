/- The contracts of proxy's Look, Take and Give. -/
import Derived.Test.YtkbifnbblimnlaaProxy
namespace Go.Proofs.Ytkbifnbblimnlaa
open Go.RowKit
set_option linter.unusedVariables false

def lookS (n : Nat) (lv : Nat → Bool) (gn : Nat → Int) (h : Int) : Int × Int :=
  if h < 4096 ∨ 4194304 ≤ h then (0, 7) else if (n : Int) ≤ h % 4096 then (0, 7) else if h / 4096 < gn (h % 4096).toNat then (0, 6)
  else if gn (h % 4096).toNat < h / 4096 ∨ lv (h % 4096).toNat = false then (0, 7) else (h % 4096, 0)
theorem lookS_out {n : Nat} {lv : Nat → Bool} {gn : Nat → Int} {h : Int} (h1 : h < 4096 ∨ 4194304 ≤ h) : lookS n lv gn h = (0, 7) := if_pos h1
theorem lookS_far {n : Nat} {lv : Nat → Bool} {gn : Nat → Int} {h : Int} (h1 : ¬ (h < 4096 ∨ 4194304 ≤ h)) (h2 : (n : Int) ≤ h % 4096) : lookS n lv gn h = (0, 7) := by unfold lookS; rw [if_neg h1, if_pos h2]
theorem lookS_in {n : Nat} {lv : Nat → Bool} {gn : Nat → Int} {h : Int} {s : Nat} (h1 : ¬ (h < 4096 ∨ 4194304 ≤ h)) (hs : h % 4096 = s) (h2 : s < n) :
    lookS n lv gn h = if h / 4096 < gn s then (0, 6) else if gn s < h / 4096 ∨ lv s = false then (0, 7) else ((s : Int), 0) := by
  unfold lookS; rw [if_neg h1, hs, if_neg (by omega)]; rfl

set_option maxHeartbeats 2000000 in
theorem look_any (w : World) (g gs n : Nat) (gens : Int) (wh gn nx : Nat → Int) (head m0 m1 m2 h : Int) (ht : TS w g gs n gens wh gn nx head m0 m1 m2) (hl : -9223372036854775808 ≤ h ∧ h ≤ 9223372036854775807) :
    Calls Try.prog 10 #[ptr g, .int .i64 h] w fun e w' => e = .returned (.tuple #[.int .i64 (lookS n (fun i => wh i == 1) gn h).1, .int .i64 (lookS n (fun i => wh i == 1) gn h).2]) ∧ Below w.heap.size w w' := by
  by_cases h1 : h < 4096 ∨ 4194304 ≤ h
  · have HL := Lib.hid (lookS_out (n := n) (lv := fun i => wh i == 1) (gn := gn) h1)
    have H1 := Lib.hid h1
    clear h1
    go_enter Try.func10, Try.ntmps10
    go_wp2_with fail
    refine (split_no _ h H1.out hl.1 hl.2).mono ?_
    rintro e w1 ⟨rfl, b1⟩
    go_wp2_with fail
    go_ret2
    exact ⟨by rw [HL.out]; rfl, b1⟩
  · have hh : 4096 ≤ h ∧ h < 4194304 := by omega
    obtain ⟨s, hs⟩ : ∃ s : Nat, h % 4096 = s := ⟨(h % 4096).toNat, by omega⟩
    obtain ⟨q, hq⟩ : ∃ q : Int, h / 4096 = q := ⟨_, rfl⟩
    have hs1 : s < 4096 := by omega
    have Hs := Lib.hid hs
    have Hq := Lib.hid hq
    have Hh := Lib.hid h1
    clear hs hq h1
    have hn := ht.2.2.2
    by_cases h2 : (n : Int) ≤ s
    · have HL := Lib.hid (lookS_far (n := n) (lv := fun i => wh i == 1) (gn := gn) Hh.out (by rw [Hs.out]; exact h2))
      have HT := Lib.hid ht
      clear ht
      go_enter Try.func10, Try.ntmps10
      go_wp2_with fail
      refine (split_yes _ h hh.1 hh.2).mono ?_
      rintro e w1 ⟨rfl, b1⟩
      rw [Hs.out, Hq.out]
      have c0 := blk_cell (HT.out.below b1).1 0
      go_wp2_with fail
      go_ret2
      exact ⟨by rw [HL.out]; rfl, b1⟩
    · have h2' : s < n := by omega
      have HL := Lib.hid (lookS_in (lv := fun i => wh i == 1) (gn := gn) Hh.out Hs.out h2')
      have HT := Lib.hid ht
      rw [Hq.out] at HL
      clear ht h2
      by_cases h3 : q < gn s
      · have HR := Lib.hid (HL.out.trans (if_pos h3))
        go_enter Try.func10, Try.ntmps10
        go_wp2_with fail
        refine (split_yes _ h hh.1 hh.2).mono ?_
        rintro e w1 ⟨rfl, b1⟩
        rw [Hs.out, Hq.out]
        have t1 := HT.out.below b1
        have c0 := blk_cell t1.1 0
        have x0 := row_cell (i := s * 3) t1.2.1 (by omega)
        have x1 := row_cell (i := s * 3 + 1) t1.2.1 (by omega)
        have x2 := row_cell (i := s * 3 + 2) t1.2.1 (by omega)
        rw [tf_wh] at x0
        rw [tf_gn] at x1
        rw [tf_nx] at x2
        have b2 := b1.alloc b1.size (.cells #[.int .i64 (wh s), .int .i64 (gn s), .int .i64 (nx s)] 63)
        clear t1
        generalize wh s = ws at *
        generalize gn s = gs' at *
        go_wp2_with fail
        go_ret2
        exact ⟨by rw [HR.out]; rfl, b2⟩
      · have h3' : gn s ≤ q := by omega
        have d3 : decide (q < gn s) = false := by simp; omega
        have HL2 := Lib.hid (HL.out.trans (if_neg h3))
        clear h3
        by_cases h4 : gn s < q
        · have d4 : decide (gn s < q) = true := by simpa using h4
          have HR := Lib.hid (HL2.out.trans (if_pos (.inl h4)))
          go_enter Try.func10, Try.ntmps10
          go_wp2_with fail
          refine (split_yes _ h hh.1 hh.2).mono ?_
          rintro e w1 ⟨rfl, b1⟩
          rw [Hs.out, Hq.out]
          have t1 := HT.out.below b1
          have c0 := blk_cell t1.1 0
          have x0 := row_cell (i := s * 3) t1.2.1 (by omega)
          have x1 := row_cell (i := s * 3 + 1) t1.2.1 (by omega)
          have x2 := row_cell (i := s * 3 + 2) t1.2.1 (by omega)
          rw [tf_wh] at x0
          rw [tf_gn] at x1
          rw [tf_nx] at x2
          have b2 := b1.alloc b1.size (.cells #[.int .i64 (wh s), .int .i64 (gn s), .int .i64 (nx s)] 63)
          clear t1
          generalize wh s = ws at *
          generalize gn s = gs' at *
          go_wp2_with fail
          go_ret2
          exact ⟨by rw [HR.out]; rfl, b2⟩
        · have h4' : gn s = q := by omega
          have d4 : decide (gn s < q) = false := by simp; omega
          clear h4
          by_cases h5 : wh s = 1
          · have HR := Lib.hid (HL2.out.trans (if_neg (by rintro (h | h); omega; simp [h5] at h)))
            have d5 : (wh s != 1) = false := by simp [h5]
            clear h5 h4'
            go_enter Try.func10, Try.ntmps10
            go_wp2_with fail
            refine (split_yes _ h hh.1 hh.2).mono ?_
            rintro e w1 ⟨rfl, b1⟩
            rw [Hs.out, Hq.out]
            have t1 := HT.out.below b1
            have c0 := blk_cell t1.1 0
            have x0 := row_cell (i := s * 3) t1.2.1 (by omega)
            have x1 := row_cell (i := s * 3 + 1) t1.2.1 (by omega)
            have x2 := row_cell (i := s * 3 + 2) t1.2.1 (by omega)
            rw [tf_wh] at x0
            rw [tf_gn] at x1
            rw [tf_nx] at x2
            have b2 := b1.alloc b1.size (.cells #[.int .i64 (wh s), .int .i64 (gn s), .int .i64 (nx s)] 63)
            clear t1
            generalize wh s = ws at *
            generalize gn s = gs' at *
            go_wp2_with fail
            go_ret2
            exact ⟨by rw [HR.out]; rfl, b2⟩
          · have HR := Lib.hid (HL2.out.trans (if_pos (.inr (by simpa using h5))))
            have d5 : (wh s != 1) = true := by simpa using h5
            clear h5 h4'
            go_enter Try.func10, Try.ntmps10
            go_wp2_with fail
            refine (split_yes _ h hh.1 hh.2).mono ?_
            rintro e w1 ⟨rfl, b1⟩
            rw [Hs.out, Hq.out]
            have t1 := HT.out.below b1
            have c0 := blk_cell t1.1 0
            have x0 := row_cell (i := s * 3) t1.2.1 (by omega)
            have x1 := row_cell (i := s * 3 + 1) t1.2.1 (by omega)
            have x2 := row_cell (i := s * 3 + 2) t1.2.1 (by omega)
            rw [tf_wh] at x0
            rw [tf_gn] at x1
            rw [tf_nx] at x2
            have b2 := b1.alloc b1.size (.cells #[.int .i64 (wh s), .int .i64 (gn s), .int .i64 (nx s)] 63)
            clear t1
            generalize wh s = ws at *
            generalize gn s = gs' at *
            go_wp2_with fail
            go_ret2
            exact ⟨by rw [HR.out]; rfl, b2⟩
end Go.Proofs.Ytkbifnbblimnlaa
