/- The contract of the laws' awake, and of a table that is nil. -/
import Derived.Test.YtkbifnbblimnlaaStep
namespace Go.Proofs.Ytkbifnbblimnlaa
open Go.RowKit
set_option linter.unusedVariables false

theorem TA.congr {w : World} {g gs n : Nat} {gens : Int} {gn gn' : Nat → Int} {lv lv' : Nat → Bool} {fr : List Nat} (h : TA w g gs n gens gn lv fr) (h1 : gn = gn') (h2 : lv = lv') : TA w g gs n gens gn' lv' fr := by subst h1; subst h2; exact h
theorem aw_take1 (w : World) (g gs : Nat) (gn : Nat → Int) (lv : Nat → Bool) (x : Int) (hx : gn 0 = x) (hx2 : 1 ≤ x ∧ x ≤ 2) (ht : TA w g gs 1 2 gn lv [0]) :
    Calls Try.prog 17 #[ptr g] w fun e w' => e = .returned (.tuple #[.int .i64 (x * 4096), .int .i64 0, .int .i64 0]) ∧ TA w' g gs 1 2 gn (updB lv 0 true) [] ∧ Keep (fun k => k = g ∨ k = gs) w w' := by
  refine (ps_take w g gs 1 2 gn lv [0] ht).mono ?_
  rintro e w' ⟨h, s, er, lv', fr', rfl, t, p, k⟩
  cases t with
  | some _ _ a b c => rw [hx]; exact ⟨by simp, p, k⟩
theorem aw_take0 (w : World) (g gs : Nat) (gn : Nat → Int) (lv : Nat → Bool) (ht : TA w g gs 1 2 gn lv []) :
    Calls Try.prog 17 #[ptr g] w fun e w' => e = .returned (.tuple #[.int .i64 0, .int .i64 0, .int .i64 4]) ∧ TA w' g gs 1 2 gn lv [] ∧ Keep (fun k => k = g ∨ k = gs) w w' := by
  refine (ps_take w g gs 1 2 gn lv [] ht).mono ?_
  rintro e w' ⟨h, s, er, lv', fr', rfl, t, p, k⟩
  cases t with
  | none => exact ⟨rfl, p, k⟩
theorem look1 {gn : Nat → Int} {lv : Nat → Bool} {x h : Int} (hg : gn 0 = x) (hh : h = x * 4096) (hx2 : 1 ≤ x ∧ x ≤ 2) (hl : lv 0 = true) : lookS 1 lv gn h = (0, 0) := by
  rw [lookS_in (s := 0) (by omega) (by omega) (by omega), hg, if_neg (by omega), if_neg (by rw [hl]; simp; omega)]; rfl
theorem aw_give (w : World) (g gs : Nat) (gn : Nat → Int) (lv : Nat → Bool) (x h : Int) (hx : gn 0 = x) (hh : h = x * 4096) (hx2 : 1 ≤ x ∧ x ≤ 2) (hl : lv 0 = true) (ht : TA w g gs 1 2 gn lv []) :
    Calls Try.prog 18 #[ptr g, .int .i64 h] w fun e w' => e = .returned (.int .i64 0) ∧ TA w' g gs 1 2 (upd gn 0 (x + 1)) (updB lv 0 false) (if x = 1 then [0] else []) ∧ Keep (fun k => k = g ∨ k = gs) w w' := by
  have e := look1 hx hh hx2 hl
  refine (ps_give w g gs 1 2 gn lv [] h ht (by omega)).mono ?_
  rintro e' w' ⟨er, gn', lv', fr', rfl, t, p, k⟩
  cases t with
  | bad hb => rw [e] at hb; exact absurd rfl hb
  | over i hi he a b c d =>
    obtain rfl : i = 0 := by omega
    rw [hx] at d p
    rw [if_neg (by omega)]
    exact ⟨rfl, p, k⟩
  | free i hi he a b c d =>
    obtain rfl : i = 0 := by omega
    rw [hx] at d p
    rw [if_pos (by omega)]
    exact ⟨rfl, p, k⟩

theorem k0 {g gs : Nat} {w0 w w' : World} (b : Below w0.heap.size w0 w) (k : Keep (fun k => k = g ∨ k = gs) w w') (h1 : w0.heap.size ≤ g) (h2 : w0.heap.size ≤ gs) : Below w0.heap.size w0 w' := below_keep b k b.size (fun i hi => by omega)
set_option maxHeartbeats 2000000 in
theorem awake_ok (w : World) : Calls Try.prog 8 #[] w fun e w' => e = .returned (.bool true) ∧ Below w.heap.size w w' := by
  go_enter Try.func8, Try.ntmps8
  go_wp2_with fail
  refine (ta_new w 1 2 (by omega) (by omega) (by omega) (by omega)).mono ?_
  rintro e w1 ⟨g, gs, rfl, hg, hgs, t1, b1⟩
  have T1 := Lib.hid t1
  have B1 := Lib.hid b1
  clear t1 b1
  go_wp2_with fail
  refine (aw_take1 w1 g gs _ _ 1 (by simp) (by omega) T1.out).mono ?_
  rintro e w2 ⟨rfl, t, k⟩
  have B2 := Lib.hid (k0 B1.out k hg hgs)
  have T2 := Lib.hid t
  clear t k
  go_wp2_with fail
  refine (ta_look w2 g gs 1 2 _ _ _ 4096 T2.out (by omega)).mono ?_
  rw [look1 (x := 1) (by simp) (by omega) (by omega) updB_same]
  rintro e w3 ⟨rfl, b⟩
  have T3 := Lib.hid (T2.out.below b)
  have B3 := Lib.hid (B2.out.trans (b.mono B2.out.size))
  clear b
  go_wp2_with fail
  refine (aw_give w3 g gs _ _ 1 4096 (by simp) (by omega) (by omega) updB_same T3.out).mono ?_
  rw [if_pos rfl]
  rintro e w4 ⟨rfl, t, k⟩
  have B4 := Lib.hid (k0 B3.out k hg hgs)
  have T4 := Lib.hid t
  clear t k
  go_wp2_with fail
  refine (ta_look w4 g gs 1 2 _ _ _ 4096 T4.out (by omega)).mono ?_
  rw [lookS_in (s := 0) (by omega) (by omega) (by omega), upd_same, if_pos (by omega)]
  rintro e w5 ⟨rfl, b⟩
  have T5 := Lib.hid (T4.out.below b)
  have B5 := Lib.hid (B4.out.trans (b.mono B4.out.size))
  clear b
  go_wp2_with fail
  refine (aw_take1 w5 g gs _ _ 2 upd_same (by omega) T5.out).mono ?_
  rintro e w6 ⟨rfl, t, k⟩
  have B6 := Lib.hid (k0 B5.out k hg hgs)
  have T6 := Lib.hid t
  clear t k
  go_wp2_with fail
  refine (aw_give w6 g gs _ _ 2 8192 upd_same (by omega) (by omega) updB_same T6.out).mono ?_
  rw [if_neg (by omega)]
  rintro e w7 ⟨rfl, t, k⟩
  have B7 := Lib.hid (k0 B6.out k hg hgs)
  have T7 := Lib.hid t
  clear t k
  go_wp2_with fail
  refine (aw_take0 w7 g gs _ _ T7.out).mono ?_
  rintro e w8 ⟨rfl, t, k⟩
  have B8 := Lib.hid (k0 B7.out k hg hgs)
  have T8 := Lib.hid t
  clear t k
  go_wp2_with fail
  refine (ta_look w8 g gs 1 2 _ _ _ 5 T8.out (by omega)).mono ?_
  rw [lookS_out (by omega)]
  rintro e w9 ⟨rfl, b⟩
  have T9 := Lib.hid (T8.out.below b)
  have B9 := Lib.hid (B8.out.trans (b.mono B8.out.size))
  clear b
  go_wp2_with fail
  refine (ta_left w9 g gs 1 2 _ _ _ T9.out).mono ?_
  rintro e w10 ⟨rfl, rfl⟩
  simp only [List.length_nil, Int.natCast_zero]
  go_wp2_with fail
  refine (ta_live w9 g gs 1 2 _ _ _ T9.out).mono ?_
  rintro e w10 ⟨rfl, rfl⟩
  simp only [lives, updB_same]
  go_wp2_with fail
  go_ret
  exact ⟨rfl, B9.out⟩
theorem nobody_any (w : World) (h : Int) : Calls Try.prog 7 #[.int .i64 h] w fun e w' => e = .returned (.bool true) ∧ Below w.heap.size w w' := by
  go_enter Try.func7, Try.ntmps7
  go_wp2_with fail
  refine (awake_ok w).mono ?_
  rintro e w1 ⟨rfl, b1⟩
  have B1 := Lib.hid b1
  clear b1
  go_wp2_with fail
  refine (take_nil w1).mono ?_
  rintro e w2 ⟨rfl, rfl⟩
  go_wp2_with fail
  refine (look_nil w1 h).mono ?_
  rintro e w2 ⟨rfl, rfl⟩
  go_wp2_with fail
  refine (give_nil w1 h).mono ?_
  rintro e w2 ⟨rfl, rfl⟩
  go_wp2_with fail
  refine (left_nil w1).mono ?_
  rintro e w2 ⟨rfl, rfl⟩
  go_wp2_with fail
  refine (live_nil w1).mono ?_
  rintro e w2 ⟨rfl, rfl⟩
  go_wp2_with fail
  go_ret
  exact ⟨rfl, B1.out⟩
end Go.Proofs.Ytkbifnbblimnlaa
