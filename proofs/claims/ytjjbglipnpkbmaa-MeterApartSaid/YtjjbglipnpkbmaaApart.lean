/- The walk of MeterApart: it answers true for every two lists. -/
import Derived.Test.YtjjbglipnpkbmaaLaps
namespace Go.Proofs.Ytjjbglipnpkbmaa
open Go.RowKit

theorem sumM_step (zs : List Int) (k : Nat) : sumM (zs.take (k + 1)) = if k < zs.length then addM (sumM (zs.take k)) (zs.getD k 0) else sumM (zs.take k) := by
  split
  · exact sumM_snoc zs k ‹_›
  · rw [List.take_of_length_le (by omega), List.take_of_length_le (by omega)]

theorem apart_any (w : World) (a : Option Addr) (n c : Nat) (zs : List Int) (hn : zs.length = n) (hz : Reads .i64 w a zs) (hw : ∀ i, zs.getD i 0 ≤ 9223372036854775807) (hl : n ≤ 9223372036854775807)
    (a' : Option Addr) (n' c' : Nat) (ys : List Int) (hn' : ys.length = n') (hy : Reads .i64 w a' ys) (hw' : ∀ i, ys.getD i 0 ≤ 9223372036854775807) (hl' : n' ≤ 9223372036854775807) :
    Calls Try.prog 7 #[.slice a n c, .slice a' n' c'] w fun e w' => e = .returned (.bool true) ∧ Below w.heap.size w w' := by
  have Hn := Lib.hid hn
  have Hw := Lib.hid hw
  have Hn' := Lib.hid hn'
  have Hw' := Lib.hid hw'
  clear hn hw hn' hw'
  by_cases h60 : 60 < n
  · go_enter Try.func7, Try.ntmps7
    go_wp2_with fail
    refine (awake_any _).mono ?_
    rintro e w1 ⟨rfl, b1⟩
    go_wp2_with fail
    go_ret
    exact ⟨rfl, b1⟩
  by_cases h61 : 60 < n'
  · go_enter Try.func7, Try.ntmps7
    go_wp2_with fail
    refine (awake_any _).mono ?_
    rintro e w1 ⟨rfl, b1⟩
    go_wp2_with fail
    go_ret
    exact ⟨rfl, b1⟩
  go_enter Try.func7, Try.ntmps7
  go_wp2_with fail
  refine (awake_any _).mono ?_
  rintro e w1 ⟨rfl, b1⟩
  go_wp2_with fail
  refine (new_any _).mono ?_
  rintro e w2 ⟨rfl, hw2⟩
  have hg := b1.size
  have m2 : IsM w2 w1.heap.size 0 0 := by rw [hw2]; exact blk_new _ _
  have b2 : Below w.heap.size w w2 := by rw [hw2]; exact b1.alloc b1.size _
  have hg2 : w1.heap.size + 1 ≤ w2.heap.size := by rw [hw2]; simp
  clear hw2
  go_wp2_with fail
  refine (new_any _).mono ?_
  rintro e w3 ⟨rfl, hw3⟩
  have p3 : IsM w3 w2.heap.size 0 0 := by rw [hw3]; exact blk_new _ _
  have m3 : IsM w3 w1.heap.size 0 0 := by rw [hw3]; exact blk_alloc m2 _
  have b3 : Below w.heap.size w w3 := by rw [hw3]; exact b2.alloc b2.size _
  clear hw3 m2 b2
  go_wp2_with fail
  go_loopw [8] (fun i wr => ∃ (k : Nat), k ≤ max n n' ∧ i = .int .i64 k ∧ IsM wr w1.heap.size (sumM (zs.take k)) 0 ∧ IsM wr w2.heap.size (sumM (ys.take k)) 0 ∧ Below w.heap.size w wr) (fun i _ => max n n' - (intOf i).toNat)
  case atStart => exact ⟨0, Nat.zero_le _, rfl, m3, p3, b3⟩
  case round =>
    obtain ⟨k, hk, rfl, mr, pr, br⟩ := hrel
    have hs0 := sumM_range (zs.take k)
    have ht0 := sumM_range (ys.take k)
    have Hs := Lib.hid (sumM_step zs k)
    have Ht := Lib.hid (sumM_step ys k)
    obtain ⟨s, hse⟩ : ∃ s, s = sumM (zs.take k) := ⟨_, rfl⟩
    obtain ⟨t, hte⟩ : ∃ s, s = sumM (ys.take k) := ⟨_, rfl⟩
    rw [← hse] at mr hs0 Hs
    rw [← hte] at pr ht0 Ht
    have hkk : k < 9223372036854775806 := by omega
    by_cases hlt : k < n
    · obtain ⟨b, off, ha, hx⟩ := hz.elem br (k := k) (by rw [Hn.out]; exact hlt)
      subst ha
      have hxw := Hw.out k
      rw [if_pos (by rw [Hn.out]; exact hlt)] at Hs
      obtain ⟨x, hxe⟩ : ∃ x, x = zs.getD k 0 := ⟨_, rfl⟩
      rw [← hxe] at hx hxw Hs
      clear hxe hse hte
      by_cases hlt' : k < n'
      · obtain ⟨b', off', ha', hx'⟩ := hy.elems (k := k) (by rw [Hn'.out]; exact hlt')
        subst ha'
        have hxw' := Hw'.out k
        rw [if_pos (by rw [Hn'.out]; exact hlt')] at Ht
        obtain ⟨x', hxe'⟩ : ∃ x, x = ys.getD k 0 := ⟨_, rfl⟩
        rw [← hxe'] at hx' hxw' Ht
        have Hx := Lib.hid hx'
        clear hxe' hx'
        go_wp2_with fail
        refine (charge_any _ _ x s 0 hxw hs0.1 hs0.2 mr).mono ?_
        rintro e w4 ⟨rfl, m4, k4⟩
        have b4 := Below.of_keep br k4 br.size (fun i hi => by omega)
        have p4 := k4.blk pr (show ¬ w2.heap.size = w1.heap.size from by omega)
        have hx4 := Hx.out w4 b4
        go_wp2_with fail
        refine (charge_any _ _ x' t 0 hxw' ht0.1 ht0.2 p4).mono ?_
        rintro e w5 ⟨rfl, p5, k5⟩
        have b5 := Below.of_keep b4 k5 b4.size (fun i hi => by omega)
        have m5 := k5.blk m4 (show ¬ w1.heap.size = w2.heap.size from by omega)
        go_wp2_with fail
        go_roundw
        case rel => exact ⟨k + 1, by omega, by go_num, by rw [Hs.out]; exact m5, by rw [Ht.out]; exact p5, b5⟩
        case measure => simp [intOf]; omega
      · rw [if_neg (by rw [Hn'.out]; exact hlt')] at Ht
        go_wp2_with fail
        refine (charge_any _ _ x s 0 hxw hs0.1 hs0.2 mr).mono ?_
        rintro e w4 ⟨rfl, m4, k4⟩
        have b4 := Below.of_keep br k4 br.size (fun i hi => by omega)
        have p4 := k4.blk pr (show ¬ w2.heap.size = w1.heap.size from by omega)
        go_wp2_with fail
        go_roundw
        case rel => exact ⟨k + 1, by omega, by go_num, by rw [Hs.out]; exact m4, by rw [Ht.out]; exact p4, b4⟩
        case measure => simp [intOf]; omega
    · rw [if_neg (by rw [Hn.out]; exact hlt)] at Hs
      by_cases hlt' : k < n'
      · obtain ⟨b', off', ha', hx'⟩ := hy.elem br (k := k) (by rw [Hn'.out]; exact hlt')
        subst ha'
        have hxw' := Hw'.out k
        rw [if_pos (by rw [Hn'.out]; exact hlt')] at Ht
        obtain ⟨x', hxe'⟩ : ∃ x, x = ys.getD k 0 := ⟨_, rfl⟩
        rw [← hxe'] at hx' hxw' Ht
        clear hxe' hse hte
        go_wp2_with fail
        refine (charge_any _ _ x' t 0 hxw' ht0.1 ht0.2 pr).mono ?_
        rintro e w5 ⟨rfl, p5, k5⟩
        have b5 := Below.of_keep br k5 br.size (fun i hi => by omega)
        have m5 := k5.blk mr (show ¬ w1.heap.size = w2.heap.size from by omega)
        go_wp2_with fail
        go_roundw
        case rel => exact ⟨k + 1, by omega, by go_num, by rw [Hs.out]; exact m5, by rw [Ht.out]; exact p5, b5⟩
        case measure => simp [intOf]; omega
      · have hzr := hz.keep br
        have hyr := hy.keep br
        rw [List.take_of_length_le (by rw [Hn.out]; omega)] at hse
        rw [List.take_of_length_le (by rw [Hn'.out]; omega)] at hte
        clear Hs Ht
        have hs1 := Lib.hid hse
        have ht1 := Lib.hid hte
        clear hse hte
        go_wp2_with fail
        refine (total_any _ _ s 0 mr).mono ?_
        rintro e w4 ⟨rfl, rfl⟩
        go_wp2_with fail
        refine (sum_any _ _ n _ zs Hn.out hzr (by omega) Hw.out).mono ?_
        rintro e w4 ⟨rfl, rfl⟩
        rw [← hs1.out]
        go_wp2_with fail
        refine (total_any _ _ t 0 pr).mono ?_
        rintro e w4 ⟨rfl, rfl⟩
        go_wp2_with fail
        refine (sum_any _ _ n' _ ys Hn'.out hyr (by omega) Hw'.out).mono ?_
        rintro e w4 ⟨rfl, rfl⟩
        rw [← ht1.out]
        go_wp2_with fail
        go_ret
        exact ⟨by simp, br⟩
end Go.Proofs.Ytjjbglipnpkbmaa
