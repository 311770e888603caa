/- The walk through the law PoolAll. -/
import Derived.Test.YtlajbgopidllbaaAwake
namespace Go.Proofs.Ytlajbgopidllbaa
open Go.RowKit

def rot (a k i : Nat) : Nat := (a + i) % k
theorem rot_eq (a k i : Nat) (ha : a < k) (hi : i < k) : rot a k i = if a + i < k then a + i else a + i - k := by
  unfold rot
  by_cases h : a + i < k
  · rw [if_pos h, Nat.mod_eq_of_lt h]
  · rw [if_neg h, Nat.mod_eq_sub_mod (by omega), Nat.mod_eq_of_lt (by omega)]
theorem rot_inj (a k i j : Nat) (ha : a < k) (hi : i < k) (hj : j < k) (h : rot a k i = rot a k j) : i = j := by
  rw [rot_eq a k i ha hi, rot_eq a k j ha hj] at h
  split at h <;> split at h <;> omega
/-- what has been given back, the last one first -/
def given (a k : Nat) : Nat → List Nat
  | 0 => []
  | i + 1 => rot a k i :: given a k i
theorem given_mem (a k : Nat) : ∀ (i x : Nat), x ∈ given a k i → ∃ j, j < i ∧ x = rot a k j := by
  intro i
  induction i with
  | zero => intro x h; simp [given] at h
  | succ i ih =>
    intro x h
    rcases List.mem_cons.1 h with rfl | h
    · exact ⟨i, by omega, rfl⟩
    · obtain ⟨j, h1, h2⟩ := ih x h
      exact ⟨j, by omega, h2⟩
theorem rot_fresh (a k i : Nat) (ha : a < k) (hi : i < k) : rot a k i ∉ given a k i := by
  intro h
  obtain ⟨j, hj, e⟩ := given_mem a k i _ h
  have := rot_inj a k i j ha hi (by omega) e
  omega
theorem PA.not_free {w : World} {g gp n : Nat} {os : Nat → Int} {fr : List Nat} (h : PA w g gp n os fr) {i : Nat} (hi : i < n) (hf : i ∉ fr) : os i ≠ -1 := fun e => hf (h.2.2.2.2 i hi e)

set_option maxHeartbeats 2000000 in
theorem lawAll_any (w : World) (n t : Int) (hn : 0 ≤ n ∧ n ≤ 255) (ht : 0 ≤ t ∧ t ≤ 255) : Calls Try.prog 5 #[.int .u8 n, .int .u8 t] w fun e w' => e = .returned (.bool true) ∧ Below w.heap.size w w' := by
  obtain ⟨k, hk⟩ : ∃ k : Nat, (k : Int) = 1 + n % 40 := ⟨(1 + n % 40).toNat, by omega⟩
  have hk1 : 1 ≤ k ∧ k ≤ 40 := by omega
  obtain ⟨a, ha⟩ : ∃ a : Nat, (a : Int) = t % k := ⟨(t % k).toNat, by have := Int.emod_nonneg t (show (k : Int) ≠ 0 by omega); omega⟩
  have ha1 : a < k := by have := Int.emod_lt_of_pos t (show (0 : Int) < k by omega); omega
  have q2 : t.tmod k = (a : Int) := by rw [Int.tmod_eq_emod_of_nonneg ht.1, ha]
  have Hk := Lib.hid hk
  have hrot : ∀ i : Nat, ((a : Int) + i).tmod k = ((rot a k i : Nat) : Int) := fun i => by
    rw [Int.tmod_eq_emod_of_nonneg (by omega)]
    rfl
  have Hrot := Lib.hid hrot
  clear hk ha hrot
  go_enter Try.func5, Try.ntmps5
  go_wp2_with fail
  refine (awake_any _).mono ?_
  rintro e w1 ⟨rfl, b1⟩
  go_wp2_with fail
  rw [← Hk.out]
  refine (pa_new _ k hk1.1 (by omega)).mono ?_
  rintro e w2 ⟨g, gp, rfl, hg, hgp, p2, b2⟩
  have K2 : Keep (fun j => w.heap.size ≤ j) w w2 := Keep.of_below (below_after b1 b2 b1.size)
  have hg' : w.heap.size ≤ g := Nat.le_trans b1.size hg
  have hgp' : w.heap.size ≤ gp := Nat.le_trans b1.size hgp
  have hS : ∀ i, (i = g ∨ i = gp) → w.heap.size ≤ i ∨ w.heap.size ≤ i := fun i h => .inl (by rcases h with rfl | rfl; exact hg'; exact hgp')
  have HS := Lib.hid hS
  have P2 := Lib.hid p2
  clear p2 hS
  go_wp2_with fail
  go_loopw [9] (fun v wr => ∃ (i : Nat) (os : Nat → Int), v = .int .i64 i ∧ i ≤ k ∧ PA wr g gp k os (List.range' i (k - i)) ∧ Keep (fun j => w.heap.size ≤ j) w wr) (fun v _ => k - (intOf v).toNat)
  case atStart => exact ⟨0, _, rfl, Nat.zero_le _, by have := P2.out; rw [List.range_eq_range'] at this; exact this, K2⟩
  case round =>
    obtain ⟨i, os, rfl, hi, hp, hK⟩ := hrel
    have HP := Lib.hid hp
    clear hp
    by_cases hlt : i < k
    · have hp := HP.out
      rw [show k - i = (k - (i + 1)) + 1 from by omega, List.range'_succ] at hp
      have HP1 := Lib.hid hp
      clear hp
      go_wp2_with fail
      refine (pa_take _ g gp k i _ os i HP1.out (by omega)).mono ?_
      rintro e w3 ⟨rfl, p3, k3⟩
      have P3 := Lib.hid p3
      clear p3
      go_wp2_with fail
      go_roundw
      case rel => exact ⟨i + 1, _, by go_num, hlt, P3.out, hK.then k3 HS.out⟩
      case measure => simp [intOf]; omega
    · have ek : k = i := by omega
      subst ek
      have hp := HP.out
      rw [Nat.sub_self] at hp
      have HP1 : Hid (PA wr g gp k os []) := Lib.hid hp
      clear hp
      go_wp2_with fail
      refine (pa_take_none _ g gp k os 0 HP1.out (by omega)).mono ?_
      rintro e w3 ⟨rfl, k3⟩
      have P3 := Lib.hid (HP1.out.keep k3 (fun h => h) (fun h => h))
      have K3 := hK.then k3 (fun _ h => h.elim)
      go_wp2_with fail
      go_loopw [15] (fun v wr => ∃ (i : Nat) (os : Nat → Int), v = .int .i64 i ∧ i ≤ k ∧ PA wr g gp k os (given a k i) ∧ Keep (fun j => w.heap.size ≤ j) w wr) (fun v _ => k - (intOf v).toNat)
      case atStart => exact ⟨0, _, rfl, Nat.zero_le _, P3.out, K3⟩
      case round =>
        obtain ⟨i, os2, rfl, hi2, hp4, hK4⟩ := hrel
        have HP4 := Lib.hid hp4
        clear hp4
        by_cases hlt2 : i < k
        · have hr := Hrot.out i
          have hno := HP4.out.not_free (i := rot a k i) (by unfold rot; exact Nat.mod_lt _ (by omega)) (rot_fresh a k i ha1 hlt2)
          have hrlt : rot a k i < k := by unfold rot; exact Nat.mod_lt _ (by omega)
          obtain ⟨r, hre⟩ : ∃ r, r = rot a k i := ⟨_, rfl⟩
          rw [← hre] at hr hno hrlt
          have Hre := Lib.hid hre
          clear hre
          go_wp2_with fail
          refine (pa_give _ g gp k r _ os2 HP4.out hrlt hno).mono ?_
          rintro e w4 ⟨rfl, p4, k4⟩
          rw [Hre.out] at p4
          have P4 := Lib.hid p4
          clear p4
          go_wp2_with fail
          go_roundw
          case rel => exact ⟨i + 1, _, by go_num, hlt2, P4.out, hK4.then k4 HS.out⟩
          case measure => simp [intOf]; omega
        · have ek : k = i := by omega
          subst ek
          go_wp2_with fail
          go_loopw [16] (fun v wr => ∃ (m : Nat) (os : Nat → Int), v = .int .i64 ((m : Int) - 1) ∧ m ≤ k ∧ PA wr g gp k os (given a k m) ∧ Keep (fun j => w.heap.size ≤ j) w wr) (fun v _ => (intOf v + 1).toNat)
          case atStart => exact ⟨k, _, rfl, Nat.le_refl _, HP4.out, hK4⟩
          case round =>
            obtain ⟨m, os3, rfl, hm, hp5, hK5⟩ := hrel
            have HP5 := Lib.hid hp5
            clear hp5
            cases m with
            | succ i =>
              have hr := Hrot.out i
              have e1 : ((i + 1 : Nat) : Int) - 1 = i := by omega
              rw [e1]
              have hp5 : PA _ g gp k os3 (rot a k i :: given a k i) := HP5.out
              have hrlt : rot a k i < k := by unfold rot; exact Nat.mod_lt _ (by omega)
              obtain ⟨r, hre⟩ : ∃ r, r = rot a k i := ⟨_, rfl⟩
              rw [← hre] at hr hp5 hrlt
              have HP6 := Lib.hid hp5
              clear hp5 hre
              go_wp2_with fail
              refine (pa_take _ g gp k r _ os3 5 HP6.out (by omega)).mono ?_
              rintro e w5 ⟨rfl, p5, k5⟩
              have P5 := Lib.hid p5
              clear p5
              go_wp2_with fail
              go_roundw
              case rel => exact ⟨i, _, by go_num, by omega, P5.out, hK5.then k5 HS.out⟩
              case measure => simp [intOf]
            | zero =>
              have e1 : ((0 : Nat) : Int) - 1 = -1 := by omega
              rw [e1]
              have HP6 : Hid (PA _ g gp k os3 []) := Lib.hid HP5.out
              go_wp2_with fail
              refine (pa_held _ g gp k _ _ HP6.out).mono ?_
              rintro e w6 ⟨rfl, rfl⟩
              go_wp2_with fail
              go_ret
              exact ⟨rfl, hK5.below (fun j hj h => by omega)⟩
end Go.Proofs.Ytlajbgopidllbaa
