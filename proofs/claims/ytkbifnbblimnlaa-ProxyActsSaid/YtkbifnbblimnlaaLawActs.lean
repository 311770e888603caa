/- The walk through the law ProxyActs. -/
import Derived.Test.YtkbifnbblimnlaaLawLooks
import Derived.Lib.QuietBelow
namespace Go.Proofs.Ytkbifnbblimnlaa
open Go.RowKit Go.Sort
set_option linter.unusedVariables false

set_option maxRecDepth 100000 in
set_option maxHeartbeats 4000000 in
theorem lawActs_any (w : World) (x0 x1 : Int) (A : Option Addr) (c : Nat) (zs : List Act) (hx0 : 0 ≤ x0 ∧ x0 ≤ 255) (hx1 : 0 ≤ x1 ∧ x1 ≤ 255) (hz : ReadA w A zs) (hlm : zs.length ≤ 9223372036854775807) :
    Calls Try.prog 3 #[.agg #[.int .u8 x0, .int .u8 x1], .slice A zs.length c] w fun e w' => e = .returned (.bool true) ∧ Below w.heap.size w w' := by
  obtain ⟨n, hn⟩ : ∃ k : Nat, (k : Int) = 1 + x0 % 8 := ⟨(1 + x0 % 8).toNat, by omega⟩
  have hn8 : 1 ≤ n ∧ n ≤ 8 := by omega
  have Hn := Lib.hid hn
  have Hz := Lib.hid hz
  clear hn hz
  by_cases h40 : zs.length ≤ 40
  · go_enter Try.func3, Try.ntmps3
    go_wp2_with fail
    refine (awake_ok _).mono ?_
    rintro e w1 ⟨rfl, b1⟩
    have B1 := Lib.hid (((Below.refl w.heap.size w).alloc (Nat.le_refl _) (.cells #[.int .u8 x0, .int .u8 x1] 22)).trans (b1.mono (by simp)))
    have XB : Hid (w1.heap[w.heap.size]? = some (.cells #[.int .u8 x0, .int .u8 x1] 22 (0, 0))) := Lib.hid (below_blk b1 (blk_new _ _) (by simp))
    have u0 := blk_cell XB.out 0
    have u1 := blk_cell XB.out 1
    clear b1
    go_wp2_with fail
    refine (run_any w1 x0 x1 n _ hx0 hx1 Hn.out rfl A c zs h40 (Hz.out.below B1.out)).mono ?_
    rintro e w2 ⟨g, gs, v, gn, lv, fr, rfl, hg, hgs, ⟨B, hs⟩, b2⟩
    obtain ⟨gens, hge⟩ : ∃ gens, gens = 1 + x1 % 4 := ⟨_, rfl⟩
    rw [← hge] at hs
    have B2 := Lib.hid (B1.out.trans (b2.mono B1.out.size))
    have hsz1 := B1.out.size
    have V := hs.2.val
    obtain ⟨a1, c1, a2, c2, a3, c3, rfl, k1, k2, k3⟩ := V
    have hfl := hs.1.len
    have bX : Below w2.heap.size w2 (w2.alloc (.cells #[.slice a1 n c1, .slice a2 n c2, .slice a3 fr.length c3, .int .i64 gens] 29)) := (Below.refl _ _).alloc (Nat.le_refl _) _
    have T3 := Lib.hid (hs.1.below bX)
    have R3 := Lib.hid (hs.2.keep bX)
    have X3 := Lib.hid (blk_new w2 (.cells #[.slice a1 n c1, .slice a2 n c2, .slice a3 fr.length c3, .int .i64 gens] 29))
    have B3 := Lib.hid (B2.out.alloc B2.out.size (.cells #[.slice a1 n c1, .slice a2 n c2, .slice a3 fr.length c3, .int .i64 gens] 29))
    clear u0 u1 hge hs k1 k2 k3 bX b2
    go_wp2_with fail
    go_loopw [9] (fun i wr => ∃ k : Nat, i = .int .i64 k ∧ k ≤ 60 ∧ TA wr g gs n gens gn lv fr ∧ RT B wr (.agg #[.slice a1 n c1, .slice a2 n c2, .slice a3 fr.length c3, .int .i64 gens]) n gens gn lv fr ∧ wr.heap[w2.heap.size]? = some (.cells #[.slice a1 n c1, .slice a2 n c2, .slice a3 fr.length c3, .int .i64 gens] 29 (0, 0)) ∧ Below w.heap.size w wr ∧ w2.heap.size < wr.heap.size) (fun i _ => 60 - (intOf i).toNat)
    case atStart => exact ⟨0, rfl, by omega, T3.out, R3.out, X3.out, B3.out, by simp⟩
    case round =>
      obtain ⟨k, rfl, hk, ht, hr, hx, br, hzr⟩ := hrel
      have HT := Lib.hid ht
      have HR := Lib.hid hr
      have HX := Lib.hid hx
      clear ht hr
      by_cases hlt : k < 60
      · clear hx
        obtain ⟨q, r, e1, e2, hq, hr⟩ : ∃ q r : Int, (k : Int).tdiv 10 = q ∧ (k : Int).tmod 10 = r ∧ (0 ≤ q ∧ q ≤ 6) ∧ (0 ≤ r ∧ r ≤ 10) := ⟨_, _, rfl, rfl, by rw [Int.tdiv_eq_ediv_of_nonneg (by omega)]; omega, by rw [Int.tmod_eq_emod_of_nonneg (by omega)]; omega⟩
        have e3 : IntKind.i64.wrap q = q := IntWalk.i64_in _ (by omega)
        have e4 : IntKind.i64.wrap (4096 * q) = 4096 * q := IntWalk.i64_in _ (by omega)
        have e5 : IntKind.i64.wrap r = r := IntWalk.i64_in _ (by omega)
        have e6 : IntKind.i64.wrap (4096 * q + r) = 4096 * q + r := IntWalk.i64_in _ (by omega)
        go_wp2_with fail
        refine (ta_look _ g gs n gens gn lv fr (4096 * q + r) HT.out (by omega)).mono ?_
        rintro e w4 ⟨rfl, b4⟩
        have R4 := Lib.hid (HR.out.keep b4)
        have T4 := Lib.hid (HT.out.below b4)
        have X4 := Lib.hid (below_blk b4 HX.out (by omega))
        have B4 := Lib.hid (br.trans (b4.mono br.size))
        obtain ⟨l, hl⟩ : ∃ l, l = lookS n lv gn (4096 * q + r) := ⟨_, rfl⟩
        rw [← hl]
        have Hl := Lib.hid hl
        obtain ⟨l1, l2⟩ := l
        have y0 := blk_cell X4.out 0
        have y1 := blk_cell X4.out 1
        have y2 := blk_cell X4.out 2
        have y3 := blk_cell X4.out 3
        have hz4 := b4.size
        clear b4 hl
        go_wp2_with fail
        refine (rlook_any B _ _ n gens gn lv fr (4096 * q + r) R4.out).mono ?_
        rw [← Hl.out]
        rintro e w5 ⟨rfl, b5⟩
        have R5 := Lib.hid (R4.out.keep b5)
        have T5 := Lib.hid (T4.out.below b5)
        have X5 := Lib.hid (below_blk b5 X4.out (by omega))
        have B5 := Lib.hid (B4.out.trans (b5.mono B4.out.size))
        have hz5 := b5.size
        clear b5 y0 y1 y2 y3
        go_wp2_with fail
        go_roundw
        case rel => exact ⟨k + 1, by go_num, hlt, T5.out, R5.out, X5.out, B5.out, by omega⟩
        case measure => simp [intOf]; omega
      · obtain rfl : k = 60 := by omega
        have k0 := cell_regrown (blk_cell hx 0)
        have k1 := cell_regrown (blk_cell hx 1)
        have k2 := cell_regrown (blk_cell hx 2)
        have k3 := cell_regrown (blk_cell hx 3)
        have cP : ∀ (d : Nat) (os : Array Obj), Calls Try.prog 12 #[ptr g] (Go.Sort.grow (redrawn wr d) os) fun e w'' => e = .returned (.int .i64 fr.length) ∧ ∃ p : Regrown, w'' = Go.Sort.grow (redrawn wr p.d) p.os := fun d os =>
          Calls.regrown_of ((ta_left (Go.Sort.grow (redrawn wr d) os) g gs n gens gn lv fr (HT.out.below (below_regrown wr d os))).mono fun e w' h => ⟨h.1, by rw [← h.2]; exact Below.refl _ _⟩)
        have cQ : ∀ (d : Nat) (os : Array Obj), Calls Try.prog 13 #[ptr g] (Go.Sort.grow (redrawn wr d) os) fun e w'' => e = .returned (.int .i64 (lives lv n)) ∧ ∃ p : Regrown, w'' = Go.Sort.grow (redrawn wr p.d) p.os := fun d os =>
          Calls.regrown_of ((ta_live (Go.Sort.grow (redrawn wr d) os) g gs n gens gn lv fr (HT.out.below (below_regrown wr d os))).mono fun e w' h => ⟨h.1, by rw [← h.2]; exact Below.refl _ _⟩)
        have cR : ∀ (d : Nat) (os : Array Obj), Calls Try.prog 14 #[.agg #[.slice a1 n c1, .slice a2 n c2, .slice a3 fr.length c3, .int .i64 gens]] (Go.Sort.grow (redrawn wr d) os) fun e w'' => e = .returned (.int .i64 (lives lv n)) ∧ ∃ p : Regrown, w'' = Go.Sort.grow (redrawn wr p.d) p.os := fun d os =>
          Calls.regrown_of (rlives_any B (Go.Sort.grow (redrawn wr d) os) _ n gens gn lv fr (by omega) (HR.out.keep (below_regrown wr d os)))
        have HP := Lib.hid cP
        have HQ := Lib.hid cQ
        have HL := Lib.hid cR
        clear cP cQ cR hx
        go_wp2_with fail
        refine wp_region_quiet_below (by kernel_rfl) (by kernel_rfl) ?_
        repeat (first | go_big_quiet_step (first | exact HP.out _ _ | exact HQ.out _ _ | exact HL.out _ _) | quiet_step (first | exact HP.out _ _ | exact HQ.out _ _ | exact HL.out _ _))
        refine wpQuiet_nil ?_
        intro _ hw'
        obtain ⟨⟨dq, osq⟩, hw''⟩ := hw'
        subst hw''
        have B5 := br.trans ((below_regrown wr dq osq).mono br.size)
        go_wp2_with fail
        go_ret
        exact ⟨rfl, B5⟩
  · have h41 : (40 : Int) < zs.length := by omega
    clear h40
    go_enter Try.func3, Try.ntmps3
    go_wp2_with fail
    refine (awake_ok _).mono ?_
    rintro e w1 ⟨rfl, b1⟩
    have B1 := Lib.hid (((Below.refl w.heap.size w).alloc (Nat.le_refl _) (.cells #[.int .u8 x0, .int .u8 x1] 22)).trans (b1.mono (by simp)))
    clear b1
    go_wp2_with fail
    go_ret
    exact ⟨rfl, B1.out⟩
end Go.Proofs.Ytkbifnbblimnlaa
