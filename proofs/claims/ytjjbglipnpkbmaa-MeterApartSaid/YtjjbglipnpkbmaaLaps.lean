/- The walk of MeterLaps: it answers true for every list and every choice of laps. -/
import Derived.Test.YtjjbglipnpkbmaaCounts
namespace Go.Proofs.Ytjjbglipnpkbmaa
open Go.RowKit

theorem laps_any (w : World) (a : Option Addr) (n c : Nat) (zs : List Int) (laps : Int) (hn : zs.length = n) (hz : Reads .i64 w a zs) (hw : ∀ i, zs.getD i 0 ≤ 9223372036854775807) (hl : n ≤ 9223372036854775807) (hc : n ≤ c) :
    Calls Try.prog 4 #[.slice a n c, .int .u64 laps] w fun e w' => e = .returned (.bool true) ∧ Below w.heap.size w w' := by
  have Hn := Lib.hid hn
  have Hw := Lib.hid hw
  clear hn hw
  by_cases h60 : 60 < n
  · go_enter Try.func4, Try.ntmps4
    go_wp2_with fail
    refine (awake_any _).mono ?_
    rintro e w1 ⟨rfl, b1⟩
    go_wp2_with fail
    go_ret
    exact ⟨rfl, b1⟩
  · go_enter Try.func4, Try.ntmps4
    go_wp2_with fail
    refine (awake_any _).mono ?_
    rintro e w1 ⟨rfl, b1⟩
    go_wp2_with fail
    refine (new_any _).mono ?_
    rintro e w2 ⟨rfl, hw2⟩
    have m2 : IsM w2 w1.heap.size 0 0 := by rw [hw2]; exact blk_new _ _
    have b2 : Below w.heap.size w w2 := by rw [hw2]; exact b1.alloc b1.size _
    clear hw2
    have hg := b1.size
    go_wp2_with fail
    go_loopw [7, 8] (fun v i wr => ∃ (k : Nat) (l : Int), k ≤ n ∧ i = .int .i64 k ∧ v = .int .i64 l ∧ 0 ≤ l ∧ l ≤ sumM (zs.take k) ∧ IsM wr w1.heap.size (sumM (zs.take k)) l ∧ Below w.heap.size w wr) (fun _ i _ => n - (intOf i).toNat)
    case atStart => exact ⟨0, 0, Nat.zero_le _, rfl, rfl, Int.le_refl _, (sumM_range _).1, m2, b2⟩
    case round =>
      obtain ⟨k, l, hk, rfl, rfl, hl0, hl1, mr, br⟩ := hrel
      have hs0 := sumM_range (zs.take k)
      have hs1 := sumM_range (zs.take (k + 1))
      by_cases hlt : k < n
      · obtain ⟨b, off, ha, hx⟩ := hz.elem br (k := k) (by rw [Hn.out]; exact hlt)
        subst ha
        have hxw := Hw.out k
        have hs := sumM_snoc zs k (by rw [Hn.out]; exact hlt)
        obtain ⟨x, hxe⟩ : ∃ x, x = zs.getD k 0 := ⟨_, rfl⟩
        rw [← hxe] at hx hxw hs
        obtain ⟨s, hse⟩ : ∃ s, s = sumM (zs.take k) := ⟨_, rfl⟩
        rw [← hse] at hs mr hs0 hl1
        obtain ⟨s1, hse1⟩ : ∃ s, s = sumM (zs.take (k + 1)) := ⟨_, rfl⟩
        rw [← hse1] at hs hs1
        have hup : s ≤ addM s x := by unfold addM; split; omega; split <;> omega
        rw [← hs] at hup
        have Hs := Lib.hid hs
        have Hs1 := Lib.hid hse1
        clear hxe hse hs hse1
        go_wp2_with fail
        refine (charge_any _ _ x s l hxw hs0.1 hs0.2 mr).mono ?_
        rintro e w3 ⟨rfl, m3, k3⟩
        have b3 := Below.of_keep br k3 br.size (fun i hi => by omega)
        have m3 : IsM w3 w1.heap.size s1 l := by rw [Hs.out]; exact m3
        go_wp2_with fail
        · refine (lap_any _ _ s1 l hl0 (by omega) hs1.2 m3).mono ?_
          rintro e w4 ⟨rfl, m4, k4⟩
          have b4 := Below.of_keep b3 k4 b3.size (fun i hi => by omega)
          go_wp2_with fail
          refine (lap_any _ _ s1 s1 hs1.1 (by omega) hs1.2 m4).mono ?_
          rintro e w5 ⟨rfl, m5, k5⟩
          have b5 := Below.of_keep b4 k5 b4.size (fun i hi => by omega)
          go_wp2_with fail
          refine (total_any _ _ s1 s1 m5).mono ?_
          rintro e w6 ⟨rfl, rfl⟩
          go_wp2_with fail
          go_roundw
          case rel => exact ⟨k + 1, s1, by omega, by go_num, by go_num, hs1.1, by rw [← Hs1.out]; omega, by rw [← Hs1.out]; exact m5, b5⟩
          case measure => simp [intOf]; omega
        · go_roundw
          case rel => exact ⟨k + 1, l, by omega, by go_num, rfl, hl0, by rw [← Hs1.out]; omega, by rw [← Hs1.out]; exact m3, b3⟩
          case measure => simp [intOf]; omega
      · have hke : k = n := by omega
        subst hke
        have hz3 := hz.keep br
        have hzl : zs.take k = zs := List.take_of_length_le (by rw [Hn.out]; omega)
        rw [hzl] at mr hl1 hs0
        clear hzl hs1
        go_wp2_with fail
        refine (lap_any _ _ (sumM zs) l hl0 hl1 hs0.2 mr).mono ?_
        rintro e w4 ⟨rfl, m4, k4⟩
        have b4 := Below.of_keep br k4 br.size (fun i hi => by omega)
        have hz4 := hz.keep b4
        go_wp2_with fail
        refine (sum_any _ _ k _ zs Hn.out hz4 (by omega) Hw.out).mono ?_
        rintro e w5 ⟨rfl, rfl⟩
        go_wp2_with fail
        go_ret
        exact ⟨by simp; omega, b4⟩
end Go.Proofs.Ytjjbglipnpkbmaa
