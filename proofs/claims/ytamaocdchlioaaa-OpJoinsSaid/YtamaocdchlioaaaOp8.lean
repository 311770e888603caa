/- Eight bytes' number (almeryref19.read). -/
import Derived.Test.YtamaocdchlioaaaOp7
namespace Go.Proofs.Ytamaocdchlioaaa
open Go.RowKit
set_option linter.unusedVariables false

/-- the last k of eight bytes as a number -/
def hor (y : Nat → Int) : Nat → Int
  | 0 => 0
  | k + 1 => hor y k * 256 + y (7 - k)
theorem hor_bd (y : Nat → Int) (hy : ∀ i, i < 8 → 0 ≤ y i ∧ y i ≤ 255) : ∀ k, k ≤ 8 → 0 ≤ hor y k ∧ hor y k < 256 ^ k
  | 0, _ => by simp [hor]
  | k + 1, hk => by
    have h1 := hor_bd y hy k (by omega)
    have h2 := hy (7 - k) (by omega)
    rw [hor, Int.pow_succ]
    omega
theorem hor_bd7 (y : Nat → Int) (hy : ∀ i, i < 8 → 0 ≤ y i ∧ y i ≤ 255) (k : Nat) (hk : k ≤ 7) : 0 ≤ hor y k ∧ hor y k < 72057594037927936 := by
  have h := hor_bd y hy k (by omega)
  have hc : k = 0 ∨ k = 1 ∨ k = 2 ∨ k = 3 ∨ k = 4 ∨ k = 5 ∨ k = 6 ∨ k = 7 := by omega
  rcases hc with rfl | rfl | rfl | rfl | rfl | rfl | rfl | rfl <;> (refine ⟨h.1, Int.lt_of_lt_of_le h.2 (by decide)⟩)
theorem hor_word (ys : List Int) (o : Nat) : hor (fun i => ys.getD (o + i) 0) 8 = word ys o 8 := by
  rw [word8]
  simp only [hor, Nat.reduceSub, Nat.sub_zero, Nat.add_zero]
  omega
set_option maxHeartbeats 1000000 in
theorem read_any (w : World) (b off c : Nat) (y : Nat → Int) (hy : ∀ i, i < 8 → 0 ≤ y i ∧ y i ≤ 255) (hc : ∀ i, i < 8 → w.cell? ⟨b, off + i, none⟩ = some (.int .u8 (y i))) : Calls Try.prog 21 #[.slice (some ⟨b, off, none⟩) 8 c] w fun e w' => e = .returned (.int .i64 (sgn (hor y 8))) ∧ w = w' := by
  have HY := Lib.hid hy
  have HC := Lib.hid hc
  clear hy hc
  go_enter Try.func21, Try.ntmps21
  go_wp2_with fail
  go_loop [3, 4] (fun xv iv => ∃ (k : Nat) (i : Int), k ≤ 8 ∧ i = 7 - k ∧ iv = .int .i64 i ∧ xv = .int .u64 (hor y k)) (fun _ iv => (intOf iv + 1).toNat)
  case atStart => exact ⟨0, 7, by omega, by omega, rfl, rfl⟩
  case round =>
    obtain ⟨k, i, hk, hi, rfl, rfl⟩ := hrel
    by_cases hlt : k < 8
    · obtain ⟨j, hj⟩ : ∃ j : Nat, 7 - k = j := ⟨_, rfl⟩
      obtain rfl : i = (j : Int) := by omega
      have hb := hor_bd7 y HY.out k (by omega)
      have hyj := HY.out j (by omega)
      have x0 := HC.out j (by omega)
      have hnx : Hid (hor y (k + 1) = hor y k * 256 + y j) := Lib.hid (by rw [← hj]; rfl)
      have hjk : Hid ((j : Int) - 1 = 7 - ((k + 1 : Nat) : Int)) := Lib.hid (by omega)
      have hj8 : j < 8 := by omega
      clear hi hj
      generalize hor y k = X at hb hnx ⊢
      generalize y j = Y at hyj x0 hnx
      have r1 : IntKind.u64.wrap (X * 256) = X * 256 := by rw [u64_wrap]; unfold uns; omega
      have r2 : IntKind.u64.wrap Y = Y := by rw [u64_wrap]; unfold uns; omega
      have r3 : IntKind.u64.wrap (X * 256 + Y) = X * 256 + Y := by rw [u64_wrap]; unfold uns; omega
      go_wp2_with fail
      go_round
      case rel => exact ⟨k + 1, _, by omega, hjk.out, rfl, by rw [hnx.out]⟩
      case measure => simp [intOf]
    · obtain rfl : k = 8 := by omega
      obtain rfl : i = -1 := by omega
      obtain ⟨Z, hZ⟩ : ∃ Z, Z = sgn (hor y 8) := ⟨_, rfl⟩
      have hs : IntKind.i64.wrap (hor y 8) = Z := hZ.symm
      have HZ := Lib.hid hZ
      clear hZ
      generalize hX : hor y 8 = X at hs ⊢
      clear hX
      go_wp2_with fail
      go_ret
      exact ⟨by rw [← HZ.out]; rfl, rfl⟩
end Go.Proofs.Ytamaocdchlioaaa
