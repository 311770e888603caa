/- The walks through the laws ProxyLooks and ProxyActs. -/
import Derived.Test.YtkbifnbblimnlaaLife
import Derived.Test.YtkbifnbblimnlaaAwake
namespace Go.Proofs.Ytkbifnbblimnlaa
open Go.RowKit
set_option linter.unusedVariables false

set_option maxHeartbeats 4000000 in
theorem lawLooks_any (w : World) (x0 x1 : Int) (A : Option Addr) (c : Nat) (zs : List Act) (h : Int) (hx0 : 0 ≤ x0 ∧ x0 ≤ 255) (hx1 : 0 ≤ x1 ∧ x1 ≤ 255) (hz : ReadA w A zs) (hlm : zs.length ≤ 9223372036854775807) (hh : -9223372036854775808 ≤ h ∧ h ≤ 9223372036854775807) :
    Calls Try.prog 5 #[.agg #[.int .u8 x0, .int .u8 x1], .slice A zs.length c, .int .i64 h] w fun e w' => e = .returned (.bool true) ∧ Below w.heap.size w w' := by
  obtain ⟨n, hn⟩ : ∃ k : Nat, (k : Int) = 1 + x0 % 8 := ⟨(1 + x0 % 8).toNat, by omega⟩
  have hn8 : 1 ≤ n ∧ n ≤ 8 := by omega
  have Hn := Lib.hid hn
  have Hz := Lib.hid hz
  clear hn hz
  by_cases h40 : zs.length ≤ 40
  · go_enter Try.func5, Try.ntmps5
    go_wp2_with fail
    refine (awake_ok _).mono ?_
    rintro e w1 ⟨rfl, b1⟩
    have B1 := Lib.hid (((Below.refl w.heap.size w).alloc (Nat.le_refl _) (.cells #[.int .u8 x0, .int .u8 x1] 22)).trans (b1.mono (by simp)))
    have XB : Hid (w1.heap[w.heap.size]? = some (.cells #[.int .u8 x0, .int .u8 x1] 22 (0, 0))) := Lib.hid (below_blk b1 (blk_new _ _) (by simp))
    have u0 := blk_cell XB.out 0
    have u1 := blk_cell XB.out 1
    clear b1
    go_wp2_with fail
    refine (run_any w1 x0 x1 n _ hx0 hx1 Hn.out rfl A c zs h40 (Hz.out.below B1.out)).mono ?_
    rintro e w2 ⟨g, gs, v, gn, lv, fr, rfl, hg, hgs, ⟨B, hs⟩, b2⟩
    obtain ⟨gens, hge⟩ : ∃ gens, gens = 1 + x1 % 4 := ⟨_, rfl⟩
    rw [← hge] at hs
    have B2 := Lib.hid (B1.out.trans (b2.mono B1.out.size))
    have hsz1 := B1.out.size
    have V := hs.2.val
    obtain ⟨a1, c1, a2, c2, a3, c3, rfl, k1, k2, k3⟩ := V
    have hfl := hs.1.len
    have bX : Below w2.heap.size w2 (w2.alloc (.cells #[.slice a1 n c1, .slice a2 n c2, .slice a3 fr.length c3, .int .i64 gens] 29)) := (Below.refl _ _).alloc (Nat.le_refl _) _
    have T3 := Lib.hid (hs.1.below bX)
    have R3 := Lib.hid (hs.2.keep bX)
    have X3 := Lib.hid (blk_new w2 (.cells #[.slice a1 n c1, .slice a2 n c2, .slice a3 fr.length c3, .int .i64 gens] 29))
    have B3 := Lib.hid (B2.out.alloc B2.out.size (.cells #[.slice a1 n c1, .slice a2 n c2, .slice a3 fr.length c3, .int .i64 gens] 29))
    clear u0 u1 hge hs k1 k2 k3 bX b2
    go_wp2_with fail
    refine (ta_look _ g gs n gens gn lv fr h T3.out hh).mono ?_
    rintro e w4 ⟨rfl, b4⟩
    have R4 := Lib.hid (R3.out.keep b4)
    have X4 := Lib.hid (below_blk b4 X3.out (by simp))
    have B4 := Lib.hid (B3.out.trans (b4.mono B3.out.size))
    obtain ⟨k, hk⟩ : ∃ k, k = lookS n lv gn h := ⟨_, rfl⟩
    rw [← hk]
    have Hk := Lib.hid hk
    obtain ⟨k1, k2⟩ := k
    have y0 := blk_cell X4.out 0
    have y1 := blk_cell X4.out 1
    have y2 := blk_cell X4.out 2
    have y3 := blk_cell X4.out 3
    clear b4 hk
    go_wp2_with fail
    refine (rlook_any B _ _ n gens gn lv fr h R4.out).mono ?_
    rw [← Hk.out]
    rintro e w5 ⟨rfl, b5⟩
    have B5 := Lib.hid (B4.out.trans (b5.mono B4.out.size))
    clear b5 y0 y1 y2 y3
    go_wp2_with fail
    go_ret
    exact ⟨rfl, B5.out⟩
  · have h41 : (40 : Int) < zs.length := by omega
    clear h40
    go_enter Try.func5, Try.ntmps5
    go_wp2_with fail
    refine (awake_ok _).mono ?_
    rintro e w1 ⟨rfl, b1⟩
    have B1 := Lib.hid (((Below.refl w.heap.size w).alloc (Nat.le_refl _) (.cells #[.int .u8 x0, .int .u8 x1] 22)).trans (b1.mono (by simp)))
    clear b1
    go_wp2_with fail
    go_ret
    exact ⟨rfl, B1.out⟩
end Go.Proofs.Ytkbifnbblimnlaa
