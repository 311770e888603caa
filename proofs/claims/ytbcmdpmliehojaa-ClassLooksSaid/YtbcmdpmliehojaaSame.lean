/- The contract of almeryref02.Same at two equal lists. -/
import Derived.Test.YtbcmdpmliehojaaLV
namespace Go.Proofs.Ytbcmdpmliehojaa
open Go.RowKit
theorem same_any (B B' : Nat) (w : World) (v v' : Value) (l : List Int) (h : LV B w v l) (h' : LV B' w v' l) : Calls Try.prog 16 #[v, v'] w fun e w' => e = .returned (.bool true) ∧ Keep (fun _ => False) w w' := by
  have H := Lib.hid h
  have H' := Lib.hid h'
  obtain ⟨a, c, rfl, hc, hm, _, _⟩ := h
  obtain ⟨a', c', rfl, hc', hm', _, _⟩ := h'
  unfold maxLen at hm hm'
  go_enter Try.func16, Try.ntmps16
  go_wp2_with fail
  go_loopw [5] (fun i wr => ∃ k : Nat, k ≤ l.length ∧ i = .int .i64 k ∧ Keep (fun _ => False) w wr) (fun i _ => l.length - (intOf i).toNat)
  case atStart => exact ⟨0, Nat.zero_le _, rfl, Keep.refl _ _⟩
  case round =>
    obtain ⟨k, hk, rfl, hkp⟩ := hrel
    by_cases hlt : k < l.length
    · obtain ⟨g, off, c1, hv, hx⟩ := H.out.elem hlt
      cases hv
      obtain ⟨g', off', c2, hv', hx'⟩ := H'.out.elem hlt
      cases hv'
      have hx0 := hx _ (below_of_keepF hkp)
      have hx0' := hx' _ (below_of_keepF hkp)
      clear hx hx'
      generalize hz : l.getD k 0 = z at hx0 hx0'
      clear hz
      go_wp2_with fail
      go_quiet (fail)
      go_wp2_with fail
      go_roundw
      case rel => exact ⟨k + 1, hlt, by go_num, hkp.drewN nq⟩
      case measure => simp [intOf]; omega
    · obtain rfl : k = l.length := by omega
      go_wp2_with fail
      go_ret
      exact ⟨rfl, hkp⟩
end Go.Proofs.Ytbcmdpmliehojaa
