/- The walk of MeterCounts: it answers true for every list that came in. -/
import Derived.Test.YtjjbglipnpkbmaaAwake
namespace Go.Proofs.Ytjjbglipnpkbmaa
open Go.RowKit

theorem take_le (zs : List Int) (k : Nat) (hw : ∀ i, zs.getD i 0 ≤ 9223372036854775807) : ∀ i, (zs.take k).getD i 0 ≤ 9223372036854775807 := by
  intro i
  by_cases h : i < k
  · have := hw i; simpa [List.getD, List.getElem?_take, h] using this
  · simp [List.getD, List.getElem?_take, h]

theorem counts_any (w : World) (a : Option Addr) (n c : Nat) (zs : List Int) (hn : zs.length = n) (hz : Reads .i64 w a zs) (hw : ∀ i, zs.getD i 0 ≤ 9223372036854775807) (hl : n ≤ 9223372036854775807) (hc : n ≤ c) :
    Calls Try.prog 3 #[.slice a n c] w fun e w' => e = .returned (.bool true) ∧ Below w.heap.size w w' := by
  have Hn := Lib.hid hn
  have Hw := Lib.hid hw
  clear hn hw
  by_cases h60 : 60 < n
  · go_enter Try.func3, Try.ntmps3
    go_wp2_with fail
    refine (awake_any _).mono ?_
    rintro e w1 ⟨rfl, b1⟩
    go_wp2_with fail
    go_ret
    exact ⟨rfl, b1⟩
  · go_enter Try.func3, Try.ntmps3
    go_wp2_with fail
    refine (awake_any _).mono ?_
    rintro e w1 ⟨rfl, b1⟩
    go_wp2_with fail
    refine (new_any _).mono ?_
    rintro e w2 ⟨rfl, hw2⟩
    have m2 : IsM w2 w1.heap.size 0 0 := by rw [hw2]; exact blk_new _ _
    have b2 : Below w.heap.size w w2 := by rw [hw2]; exact b1.alloc b1.size _
    clear hw2
    have hg := b1.size
    go_wp2_with fail
    go_loopw [5] (fun i wr => ∃ k : Nat, k ≤ n ∧ i = .int .i64 k ∧ IsM wr w1.heap.size (sumM (zs.take k)) 0 ∧ Below w.heap.size w wr) (fun i _ => n - (intOf i).toNat)
    case atStart => exact ⟨0, Nat.zero_le _, rfl, m2, b2⟩
    case round =>
      obtain ⟨k, hk, rfl, mr, br⟩ := hrel
      have hs0 := sumM_range (zs.take k)
      have hzr : Reads .i64 wr a zs := hz.keep br
      by_cases hlt : k < n
      · obtain ⟨b, off, ha, hcell⟩ := hz.resolve_left (by rw [Hn.out]; omega)
        subst ha
        have hx0 := hcell k (by rw [Hn.out]; exact hlt)
        have hx : wr.cell? ⟨b, off + k, none⟩ = some (.int .i64 (zs.getD k 0)) := (br.cell (p := ⟨b, off + k, none⟩) (World.block_lt_of_cell? w _ hx0)).trans hx0
        have hxw := Hw.out k
        have hs := sumM_snoc zs k (by rw [Hn.out]; exact hlt)
        clear hcell hx0
        obtain ⟨x, hxe⟩ : ∃ x, x = zs.getD k 0 := ⟨_, rfl⟩
        rw [← hxe] at hx hxw hs
        obtain ⟨s, hse⟩ : ∃ s, s = sumM (zs.take k) := ⟨_, rfl⟩
        rw [← hse] at hs mr hs0
        have Hs := Lib.hid hs
        clear hxe hse hs
        go_wp2_with fail
        refine (charge_any _ _ x s 0 hxw hs0.1 hs0.2 mr).mono ?_
        rintro e w3 ⟨rfl, m3, k3⟩
        have b3 := Below.of_keep br k3 br.size (fun i hi => by omega)
        have m3 : IsM w3 w1.heap.size (sumM (zs.take (k + 1))) 0 := by rw [Hs.out]; exact m3
        go_wp2_with fail
        have hz3 := (hz.keep b3).take (k + 1)
        have Ht := Lib.hid (take_le zs (k + 1) Hw.out)
        have Hlen : Hid ((zs.take (k + 1)).length = k + 1) := by rw [List.length_take, Hn.out]; exact Nat.min_eq_left hlt
        obtain ⟨ys, hys⟩ : ∃ ys, ys = zs.take (k + 1) := ⟨_, rfl⟩
        rw [← hys] at m3 hz3 Ht Hlen
        have Hy := Lib.hid hys
        clear hys
        have hy : (sumM ys == sumM ys) = true := by simp
        go_quiet ((first | (go_at_call 11; exact Calls.quiet_of_same (total_any _ _ (sumM ys) 0 m3)) | (go_at_call 12; exact Calls.quiet_of_same (sum_any _ _ (k + 1) _ ys Hlen.out hz3 (by omega) Ht.out))))
        go_wp2
        go_roundw
        case rel => exact ⟨k + 1, by omega, by go_num, by rw [← Hy.out]; exact m3, ⟨b3.os, b3.tape, b3.output, b3.size, b3.block⟩⟩
        case measure => simp [intOf]; omega
      · have hke : k = n := by omega
        subst hke
        have hz3 := hz.keep br
        have hzl : zs.take k = zs := List.take_of_length_le (by rw [Hn.out]; omega)
        rw [hzl] at mr
        clear hzl
        go_wp2_with (first | (go_at_call 11; refine (total_any _ _ (sumM zs) 0 mr).mono ?_; rintro e w' ⟨rfl, rfl⟩) | (go_at_call 12; refine (sum_any _ _ k _ zs Hn.out hz3 (by omega) Hw.out).mono ?_; rintro e w' ⟨rfl, rfl⟩))
        go_ret
        exact ⟨by simp, br⟩
end Go.Proofs.Ytjjbglipnpkbmaa
