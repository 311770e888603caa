/- The walks through the laws PoolActs and PoolOnce. -/
import Derived.Test.YtlajbgopidllbaaRun
import Derived.IntWalk
namespace Go.Proofs.Ytlajbgopidllbaa
open Go.RowKit

theorem Sy.below {B : Nat} {w w' : World} {g gp n : Nat} {v : Value} {os : Nat → Int} {fr : List Nat} (h : Sy B w g gp n v os fr) (k : Below w.heap.size w w') : Sy B w' g gp n v os fr := ⟨h.1.below k, h.2.keep k⟩
theorem below_of_keepF {w w' : World} (k : Keep (fun _ => False) w w') : Below w.heap.size w w' := k.below (fun _ _ h => h)

theorem readA_of {w : World} {a : Option Addr} {zs : List (Bool × Int)} (h : zs.length = 0 ∨ ∃ b off, a = some ⟨b, off, none⟩ ∧ ∀ i, i < zs.length → ∃ cs : List Value, cs.length = 2 ∧ (∀ j, j < 2 → w.cell? ⟨b, off + i * 2 + j, none⟩ = cs[j]?) ∧ cs[0]? = some (.bool (zs.getD i (false, 0)).1) ∧
    cs[1]? = some (.int .i64 (zs.getD i (false, 0)).2) ∧ (-9223372036854775808 ≤ (zs.getD i (false, 0)).2 ∧ (zs.getD i (false, 0)).2 ≤ 9223372036854775807)) : ReadA w a zs := by
  rcases h with h | ⟨b, off, ha, h⟩
  · exact .inl h
  · refine .inr ⟨b, off, ha, fun i hi => ?_⟩
    obtain ⟨cs, _, hc, h0, h1, _⟩ := h i hi
    exact ⟨(hc 0 (by omega)).trans h0, (hc 1 (by omega)).trans h1⟩
theorem ReadA.below {w w' : World} {a : Option Addr} {zs : List (Bool × Int)} (h : ReadA w a zs) (k : Below w.heap.size w w') : ReadA w' a zs := by
  rcases h with h | ⟨b, off, ha, h⟩
  · exact .inl h
  · exact .inr ⟨b, off, ha, fun i hi => ⟨(k.cell (p := ⟨b, off + i * 2, none⟩) (World.block_lt_of_cell? w _ (h i hi).1)).trans (h i hi).1, (k.cell (p := ⟨b, off + i * 2 + 1, none⟩) (World.block_lt_of_cell? w _ (h i hi).2)).trans (h i hi).2⟩⟩

set_option maxHeartbeats 4000000 in
theorem lawActs_any (w : World) (a0 : Int) (A : Option Addr) (c : Nat) (zs : List (Bool × Int)) (hn : 0 ≤ a0 ∧ a0 ≤ 255) (hz : ReadA w A zs) (hlm : zs.length ≤ 9223372036854775807) : Calls Try.prog 3 #[.int .u8 a0, .slice A zs.length c] w fun e w' => e = .returned (.bool true) ∧ Below w.heap.size w w' := by
  obtain ⟨n, hk⟩ : ∃ k : Nat, (k : Int) = 1 + a0 % 9 := ⟨(1 + a0 % 9).toNat, by omega⟩
  have hn1 : 1 ≤ n ∧ n ≤ 9 := by omega
  have Hk := Lib.hid hk
  have Hz := Lib.hid hz
  clear hk hz
  by_cases h40 : zs.length ≤ 40
  · go_enter Try.func3, Try.ntmps3
    go_wp2_with fail
    refine (awake_any _).mono ?_
    rintro e w1 ⟨rfl, b1⟩
    go_wp2_with fail
    rw [← Hk.out]
    refine (run_any w1 n hn1.1 (by omega) A c zs h40 (Hz.out.below b1)).mono ?_
    rintro e w2 ⟨g, gp, v, os, fr, rfl, hg, hgp, ⟨B, hgB, hpB, hBs, hs⟩, b2⟩
    obtain ⟨a1, c1, a2, c2, rfl⟩ := hs.2.val
    have Hs := Lib.hid hs
    have hfl := hs.1.1
    have bw := below_after b1 b2 b1.size
    clear hs
    go_wp2_with fail
    have hX := blk_new w2 (.cells #[.slice a1 n c1, .slice a2 fr.length c2] 27)
    have bX : Below w2.heap.size w2 (w2.alloc (.cells #[.slice a1 n c1, .slice a2 fr.length c2] 27)) := (Below.refl _ _).alloc (Nat.le_refl _) _
    have hS0 := Hs.out.below bX
    have HX := Lib.hid hX
    have HS0 := Lib.hid hS0
    have bw0 := below_after bw bX bw.size
    clear hX hS0 bX
    go_loopw [10] (fun v wr => ∃ k : Nat, v = .int .i64 ((k : Int) - 1) ∧ k ≤ n + 2 ∧ Sy B wr g gp n (.agg #[.slice a1 n c1, .slice a2 fr.length c2]) os fr ∧ wr.heap[w2.heap.size]? = some (.cells #[.slice a1 n c1, .slice a2 fr.length c2] 27 (0, 0)) ∧ Below w.heap.size w wr) (fun v _ => (n + 1 - intOf v).toNat)
    case atStart => exact ⟨0, by go_num, by omega, HS0.out, HX.out, bw0⟩
    case round =>
      obtain ⟨k, rfl, hkn, hs, hx, br⟩ := hrel
      have y0 := blk_cell hx 0
      have y1 := blk_cell hx 1
      have Hsr := Lib.hid hs
      have Hxr := Lib.hid hx
      have HELD := Lib.hid (fun W (k : Below wr.heap.size wr W) => held_s hx y0 k)
      have hxl := blk_lt hx
      clear hs hx
      by_cases hlt : k ≤ n + 1
      · obtain ⟨i, hi⟩ : ∃ i : Int, i = (k : Int) - 1 := ⟨_, rfl⟩
        rw [← hi]
        have hib : -1 ≤ i ∧ i ≤ n := by omega
        have Hi := Lib.hid hi
        clear hi
        go_wp2_with fail
        go_region_held3 (fun W => Below wr.heap.size wr W ∧ W.cell? ⟨w2.heap.size, 0, none⟩ = some (.slice a1 n c1) ∧ W.cell? ⟨w2.heap.size, 1, none⟩ = some (.slice a2 fr.length c2) ∧ W.cell? ⟨w2.heap.size, 0, none⟩ = some (.slice a1 n c1))
          (first
            | exact HELD.out _ (Below.refl _ _)
            | exact HELD.out _ (below_drew (Below.refl _ _))
            | exact HELD.out _ b4')
          (first
            | (go_at_call 10; refine (pa_owner wr.drew g gp n os fr i (Hsr.out.1.below (below_drew (Below.refl _ _)))).mono ?_; rintro e w4 ⟨rfl, rfl⟩)
            | (go_at_call 11; refine (rs_owner B wr.drew _ n os fr i (Hsr.out.2.keep (below_drew (Below.refl _ _)))).mono ?_; rintro e w4 ⟨rfl, b4⟩; have b4' : Below wr.heap.size wr w4 := (below_drew (Below.refl wr.heap.size wr)).trans b4))
        have bw4 := br.trans (b4'.mono br.size)
        have HS4 := Lib.hid (Hsr.out.below b4')
        have HX4 := Lib.hid (below_blk b4' Hxr.out hxl)
        go_wp2_with fail
        go_roundw
        case rel => exact ⟨k + 1, by have := Hi.out; rw [this]; go_num, by omega, HS4.out, HX4.out, bw4⟩
        case measure => have := Hi.out; simp [intOf]; omega
      · obtain rfl : k = n + 2 := by omega
        have hwr : IntKind.i64.wrap ((n : Int) - (fr.length : Int)) = (n : Int) - fr.length := IntWalk.i64_in _ (by omega)
        go_wp2_with fail
        go_region_held3 (fun W => Below wr.heap.size wr W ∧ W.cell? ⟨w2.heap.size, 0, none⟩ = some (.slice a1 n c1) ∧ W.cell? ⟨w2.heap.size, 1, none⟩ = some (.slice a2 fr.length c2) ∧ W.cell? ⟨w2.heap.size, 0, none⟩ = some (.slice a1 n c1))
          (first
            | exact HELD.out _ (Below.refl _ _)
            | exact HELD.out _ (below_drew (Below.refl _ _))
            | exact HELD.out _ b4')
          (first
            | (go_at_call 12; refine (pa_free wr.drew g gp n os fr (Hsr.out.1.below (below_drew (Below.refl _ _)))).mono ?_; rintro e w4 ⟨rfl, k4⟩; have b4' : Below wr.heap.size wr w4 := (below_drew (Below.refl wr.heap.size wr)).trans (below_of_keepF k4))
            | (go_at_call 13; refine (pa_held w4 g gp n os fr (Hsr.out.1.below b4')).mono ?_; rintro e w5 ⟨rfl, rfl⟩))
        have bw4 := br.trans (b4'.mono br.size)
        go_wp2_with fail
        go_ret
        exact ⟨rfl, bw4⟩
  · have h41 : (40 : Int) < zs.length := by omega
    clear h40
    go_enter Try.func3, Try.ntmps3
    go_wp2_with fail
    refine (awake_any _).mono ?_
    rintro e w1 ⟨rfl, b1⟩
    go_wp2_with fail
    go_ret
    exact ⟨rfl, b1⟩

set_option maxHeartbeats 4000000 in
theorem lawOnce_any (w : World) (a0 : Int) (A : Option Addr) (c : Nat) (zs : List (Bool × Int)) (o : Int) (hn : 0 ≤ a0 ∧ a0 ≤ 255) (hz : ReadA w A zs) (hlm : zs.length ≤ 9223372036854775807) (ho : 0 ≤ o ∧ o ≤ 65535) :
    Calls Try.prog 6 #[.int .u8 a0, .slice A zs.length c, .int .u16 o] w fun e w' => e = .returned (.bool true) ∧ Below w.heap.size w w' := by
  obtain ⟨n, hk⟩ : ∃ k : Nat, (k : Int) = 1 + a0 % 9 := ⟨(1 + a0 % 9).toNat, by omega⟩
  have hn1 : 1 ≤ n ∧ n ≤ 9 := by omega
  have Hk := Lib.hid hk
  have Hz := Lib.hid hz
  clear hk hz
  by_cases h40 : zs.length ≤ 40
  · go_enter Try.func6, Try.ntmps6
    go_wp2_with fail
    refine (awake_any _).mono ?_
    rintro e w1 ⟨rfl, b1⟩
    go_wp2_with fail
    rw [← Hk.out]
    refine (run_any w1 n hn1.1 (by omega) A c zs h40 (Hz.out.below b1)).mono ?_
    rintro e w2 ⟨g, gp, v, os, fr, rfl, hg, hgp, ⟨B, hgB, hpB, hBs, hs⟩, b2⟩
    obtain ⟨a1, c1, a2, c2, rfl⟩ := hs.2.val
    have hfl := hs.1.1
    have bw := below_after b1 b2 b1.size
    have bX : Below w2.heap.size w2 (w2.alloc (.cells #[.slice a1 n c1, .slice a2 fr.length c2] 27)) := (Below.refl _ _).alloc (Nat.le_refl _) _
    have P3 := Lib.hid (hs.1.below bX)
    have bw0 := Lib.hid (below_after bw bX bw.size)
    have hS : ∀ i, (i = g ∨ i = gp) → w.heap.size ≤ i := fun i h => by have := b1.size; rcases h with rfl | rfl <;> omega
    have HS := Lib.hid hS
    clear hs bX hS
    go_wp2_with fail
    refine (pa_held _ g gp n os fr P3.out).mono ?_
    rintro e w3 ⟨rfl, rfl⟩
    go_wp2_with fail
    cases fr with
    | nil =>
      refine (pa_take_none _ g gp n os o P3.out ho.1).mono ?_
      rintro e w4 ⟨rfl, k4⟩
      have P4 := Lib.hid (P3.out.keep k4 (fun h => h) (fun h => h))
      have b4 := Lib.hid (bw0.out.trans ((below_of_keepF k4).mono bw0.out.size))
      clear k4
      go_wp2_with fail
      refine (pa_free _ g gp n os [] P4.out).mono ?_
      rintro e w5 ⟨rfl, k5⟩
      have b5 := b4.out.trans ((below_of_keepF k5).mono b4.out.size)
      go_wp2_with fail
      go_ret
      exact ⟨rfl, b5⟩
    | cons f fs =>
      refine (pa_take _ g gp n f fs os o P3.out ho.1).mono ?_
      rintro e w4 ⟨rfl, p4, k4⟩
      have hf : f < n := (P3.out.2.2.2.1 f List.mem_cons_self).1
      have P4 := Lib.hid p4
      have b4 := Lib.hid (below_keep bw0.out k4 bw0.out.size HS.out)
      clear k4 p4
      go_wp2_with fail
      refine (pa_owner _ g gp n _ fs f P4.out).mono ?_
      rintro e w5 ⟨rfl, rfl⟩
      rw [show ownS n (upd os f o) f = o from by unfold ownS upd; rw [if_neg (by omega)]; simp]
      go_wp2_with fail
      refine (pa_give _ g gp n f fs _ P4.out hf (by unfold upd; rw [if_pos rfl]; omega)).mono ?_
      rintro e w5 ⟨rfl, p5, k5⟩
      have P5 := Lib.hid p5
      have b5 := Lib.hid (below_keep b4.out k5 b4.out.size HS.out)
      clear k5 p5
      go_wp2_with fail
      refine (pa_give_none _ g gp n f (f :: fs) _ P5.out hf (by unfold upd; rw [if_pos rfl])).mono ?_
      rintro e w6 ⟨rfl, rfl⟩
      go_wp2_with fail
      refine (pa_owner _ g gp n _ (f :: fs) f P5.out).mono ?_
      rintro e w6 ⟨rfl, rfl⟩
      rw [show ownS n (upd (upd os f o) f (-1)) f = -1 from by unfold ownS upd; rw [if_neg (by omega)]; simp]
      go_wp2_with fail
      refine (pa_held _ g gp n _ (f :: fs) P5.out).mono ?_
      rintro e w6 ⟨rfl, rfl⟩
      have b6 := b5.out
      go_wp2_with fail
      go_ret
      exact ⟨rfl, b6⟩
  · have h41 : (40 : Int) < zs.length := by omega
    clear h40
    go_enter Try.func6, Try.ntmps6
    go_wp2_with fail
    refine (awake_any _).mono ?_
    rintro e w1 ⟨rfl, b1⟩
    go_wp2_with fail
    go_ret
    exact ⟨rfl, b1⟩
end Go.Proofs.Ytlajbgopidllbaa
