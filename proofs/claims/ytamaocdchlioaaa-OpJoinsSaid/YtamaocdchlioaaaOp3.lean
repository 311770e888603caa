/- A number's eight bytes (almeryref19.num). -/
import Derived.Test.YtamaocdchlioaaaOp2
namespace Go.Proofs.Ytamaocdchlioaaa
open Go.RowKit
set_option linter.unusedVariables false

/-- a number without its sign -/
def uns (n : Int) : Int := n % 18446744073709551616
/-- k bytes of it, the lowest first -/
def numTo (N : Int) : Nat → List Int
  | 0 => []
  | k + 1 => numTo N k ++ [N / 256 ^ k % 256]
def numB (n : Int) : List Int := numTo (uns n) 8
theorem numTo_len (N : Int) : ∀ k, (numTo N k).length = k
  | 0 => rfl
  | k + 1 => by rw [numTo, List.length_append, numTo_len N k]; rfl
theorem u64_wrap (n : Int) : IntKind.u64.wrap n = uns n := by
  simp [IntKind.wrap, IntKind.bits, IntKind.signed, uns]
theorem u8_wrap (n : Int) : IntKind.u8.wrap n = n % 256 := by
  simp [IntKind.wrap, IntKind.bits, IntKind.signed]
theorem num_round (X : Int) (h0 : 0 ≤ X) (h1 : X < 18446744073709551616) : X.tmod 256 = X % 256 ∧ IntKind.u8.wrap (X % 256) = X % 256 ∧ X.tdiv 256 = X / 256 ∧ IntKind.u64.wrap (X / 256) = X / 256 ∧ IntKind.u64.wrap (X % 256) = X % 256 :=
  ⟨Int.tmod_eq_emod_of_nonneg h0, by rw [u8_wrap]; omega, Int.tdiv_eq_ediv_of_nonneg h0, by rw [u64_wrap]; unfold uns; omega, by rw [u64_wrap]; unfold uns; omega⟩
theorem num_next (N : Int) (k : Nat) : N / 256 ^ k / 256 = N / 256 ^ (k + 1) := by
  have hp : (0 : Int) < 256 ^ k := Int.pow_pos (by omega)
  rw [Int.ediv_ediv, if_neg (by omega), Int.sub_zero, Int.pow_succ]
theorem num_bound (N : Int) (h0 : 0 ≤ N) (h1 : N < 18446744073709551616) (k : Nat) : 0 ≤ N / 256 ^ k ∧ N / 256 ^ k < 18446744073709551616 := by
  have hp : (0 : Int) < 256 ^ k := Int.pow_pos (by omega)
  exact ⟨Int.ediv_nonneg h0 (Int.le_of_lt hp), Int.lt_of_le_of_lt (Int.ediv_le_self _ h0) h1⟩
set_option maxHeartbeats 1000000 in
theorem num_any (w : World) (n : Int) : Calls Try.prog 23 #[.int .i64 n] w fun e w' => ∃ v, e = .returned v ∧ LB w' v (numB n) ∧ Below w.heap.size w w' := by
  obtain ⟨i0, ei, ez0, ez1, ez2⟩ := info_parts Try.infoB
  have hw := u64_wrap n
  have hN : 0 ≤ uns n ∧ uns n < 18446744073709551616 := by unfold uns; omega
  have HNB : Hid (numB n = numTo (uns n) 8) := Lib.hid rfl
  generalize hu : uns n = N at hw hN HNB
  clear hu
  go_enter Try.func23, Try.ntmps23
  go_wp2_with fail
  go_loopw [3, 4, 5] (fun ov xv bv wr => ∃ k : Nat, k ≤ 8 ∧ bv = .int .i64 k ∧ xv = .int .u64 (N / 256 ^ k) ∧ wr.ownsRow w.heap.size 5 1 ov k (bcells (numTo N k)) ∧ Below w.heap.size w wr) (fun _ _ bv _ => 8 - (intOf bv).toNat)
  case atStart => exact ⟨0, by omega, rfl, by simp, ⟨rfl, .inl ⟨rfl, rfl⟩⟩, Below.refl _ _⟩
  case round =>
    obtain ⟨k, hk, rfl, rfl, ho, br⟩ := hrel
    have O := Lib.hid ho
    have BR := Lib.hid br
    clear ho br
    by_cases hlt : k < 8
    · have hb := num_bound N hN.1 hN.2 k
      have hnx := Lib.hid (num_next N k)
      have hto : Hid (numTo N (k + 1) = numTo N k ++ [N / 256 ^ k % 256]) := Lib.hid rfl
      generalize N / 256 ^ k = X at hb hnx hto
      obtain ⟨r1, r2, r3, r4, r5⟩ := num_round X hb.1 hb.2
      have hnews := Lib.hid (new_cells wr (bcells [X % 256]) 5)
      go_wp2_with (at_builtin; refine wpList_append_own _ rfl _ _ 25 rfl w.heap.size 5 i0 (.int .u8 0) 1 1 Try.underlying25 ei ez0 ez1 ez2 rfl (by decide) _ _ _ rfl (O.out.alloc _) ⟨wr.heap.size, 0, none⟩ 1 1 _ rfl rfl hnews.out (bcells_one [X % 256]) (by unfold maxLen; omega) (by omega) (by have := BR.out.size; simp; omega) ?_; intro v5 w5 hown5 hgr5 _)
      have b5 := below_append BR.out O.out (((Keep.refl _ wr).alloc (.cells #[.int .u8 (X % 256)] 5))) hgr5 BR.out.size
      go_roundw
      case rel => exact ⟨k + 1, hlt, by go_num, by rw [← hnx.out], by rw [hto.out, ← bcells_app]; exact hown5, b5⟩
      case measure => simp [intOf]; omega
    · obtain rfl : k = 8 := by omega
      go_wp2_with fail
      go_ret
      refine ⟨_, rfl, ?_, BR.out⟩
      rw [HNB.out]
      exact lb_of_own (by rw [numTo_len]; exact O.out)
end Go.Proofs.Ytamaocdchlioaaa
