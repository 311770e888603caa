/- The walk of MeterRises: it answers true for every list and every further charge. -/
import Derived.Test.YtjjbglipnpkbmaaLaps
namespace Go.Proofs.Ytjjbglipnpkbmaa
open Go.RowKit

theorem rises_any (w : World) (a : Option Addr) (n c : Nat) (zs : List Int) (q : Int) (hn : zs.length = n) (hz : Reads .i64 w a zs) (hw : ∀ i, zs.getD i 0 ≤ 9223372036854775807) (hl : n ≤ 9223372036854775807) (hq : q ≤ 9223372036854775807) :
    Calls Try.prog 5 #[.slice a n c, .int .i64 q] w fun e w' => e = .returned (.bool true) ∧ Below w.heap.size w w' := by
  have Hn := Lib.hid hn
  have Hw := Lib.hid hw
  clear hn hw
  by_cases h60 : 60 < n
  · go_enter Try.func5, Try.ntmps5
    go_wp2_with fail
    refine (awake_any _).mono ?_
    rintro e w1 ⟨rfl, b1⟩
    go_wp2_with fail
    go_ret
    exact ⟨rfl, b1⟩
  · go_enter Try.func5, Try.ntmps5
    go_wp2_with fail
    refine (awake_any _).mono ?_
    rintro e w1 ⟨rfl, b1⟩
    go_wp2_with fail
    refine (new_any _).mono ?_
    rintro e w2 ⟨rfl, hw2⟩
    have m2 : IsM w2 w1.heap.size 0 0 := by rw [hw2]; exact blk_new _ _
    have b2 : Below w.heap.size w w2 := by rw [hw2]; exact b1.alloc b1.size _
    clear hw2
    have hg := b1.size
    go_wp2_with fail
    go_loopw [7] (fun i wr => ∃ (k : Nat), k ≤ n ∧ i = .int .i64 k ∧ IsM wr w1.heap.size (sumM (zs.take k)) 0 ∧ Below w.heap.size w wr) (fun i _ => n - (intOf i).toNat)
    case atStart => exact ⟨0, Nat.zero_le _, rfl, m2, b2⟩
    case round =>
      obtain ⟨k, hk, rfl, mr, br⟩ := hrel
      have hs0 := sumM_range (zs.take k)
      have hs1 := sumM_range (zs.take (k + 1))
      by_cases hlt : k < n
      · obtain ⟨b, off, ha, hx⟩ := hz.elem br (k := k) (by rw [Hn.out]; exact hlt)
        subst ha
        have hxw := Hw.out k
        have hs := sumM_snoc zs k (by rw [Hn.out]; exact hlt)
        obtain ⟨x, hxe⟩ : ∃ x, x = zs.getD k 0 := ⟨_, rfl⟩
        rw [← hxe] at hx hxw hs
        obtain ⟨s, hse⟩ : ∃ s, s = sumM (zs.take k) := ⟨_, rfl⟩
        rw [← hse] at hs mr hs0
        obtain ⟨s1, hse1⟩ : ∃ s, s = sumM (zs.take (k + 1)) := ⟨_, rfl⟩
        rw [← hse1] at hs hs1
        have hup : s ≤ addM s x := by unfold addM; split; omega; split <;> omega
        rw [← hs] at hup
        have Hs := Lib.hid hs
        have Hs1 := Lib.hid hse1
        clear hxe hse hs hse1
        go_wp2_with fail
        refine (total_any _ _ s 0 mr).mono ?_
        rintro e w3 ⟨rfl, rfl⟩
        go_wp2_with fail
        refine (charge_any _ _ x s 0 hxw hs0.1 hs0.2 mr).mono ?_
        rintro e w3 ⟨rfl, m3, k3⟩
        have b3 := Below.of_keep br k3 br.size (fun i hi => by omega)
        have m3 : IsM w3 w1.heap.size s1 0 := by rw [Hs.out]; exact m3
        go_wp2_with fail
        refine (total_any _ _ s1 0 m3).mono ?_
        rintro e w4 ⟨rfl, rfl⟩
        go_wp2_with fail
        refine (total_any _ _ s1 0 m3).mono ?_
        rintro e w4 ⟨rfl, rfl⟩
        go_wp2_with fail
        go_roundw
        case rel => exact ⟨k + 1, by omega, by go_num, by rw [← Hs1.out]; exact m3, b3⟩
        case measure => simp [intOf]; omega
      · have hke : k = n := by omega
        subst hke
        obtain ⟨s, hse⟩ : ∃ s, s = sumM (zs.take k) := ⟨_, rfl⟩
        rw [← hse] at mr hs0
        clear hse hs1
        have hs2 := addM_range s q hs0.1 hs0.2
        go_wp2_with fail
        refine (total_any _ _ s 0 mr).mono ?_
        rintro e w3 ⟨rfl, rfl⟩
        go_wp2_with fail
        refine (charge_any _ _ q s 0 hq hs0.1 hs0.2 mr).mono ?_
        rintro e w3 ⟨rfl, m3, k3⟩
        have b3 := Below.of_keep br k3 br.size (fun i hi => by omega)
        by_cases q1 : q < 1
        · have m3 : IsM w3 w1.heap.size s 0 := by have h := m3; rw [addM, if_pos q1] at h; exact h
          go_wp2_with fail
          refine (total_any _ _ s 0 m3).mono ?_
          rintro e w4 ⟨rfl, rfl⟩
          go_wp2_with fail
          go_ret
          exact ⟨by simp, b3⟩
        · by_cases q2 : s = 4611686018427387904
          · have m4 : IsM w3 w1.heap.size 4611686018427387904 0 := by have h := m3; rw [addM, if_neg q1, if_pos (by omega)] at h; exact h
            clear m3 hs2
            subst q2
            go_wp2_with fail
            refine (total_any _ _ 4611686018427387904 0 m4).mono ?_
            rintro e w4 ⟨rfl, rfl⟩
            go_wp2_with fail
            go_ret
            exact ⟨by simp, b3⟩
          · have hne : addM s q ≠ s := by rw [addM, if_neg q1]; split <;> omega
            obtain ⟨v, hv⟩ : ∃ v, v = addM s q := ⟨_, rfl⟩
            rw [← hv] at m3 hne
            clear hv hs2
            have e1 : (v == s) = false := beq_eq_false_iff_ne.2 hne
            have e2 : (s == 4611686018427387904) = false := beq_eq_false_iff_ne.2 q2
            go_wp2_with fail
            refine (total_any _ _ v 0 m3).mono ?_
            rintro e w4 ⟨rfl, rfl⟩
            go_wp2_with fail
            go_ret
            exact ⟨by simp; omega, b3⟩
end Go.Proofs.Ytjjbglipnpkbmaa
