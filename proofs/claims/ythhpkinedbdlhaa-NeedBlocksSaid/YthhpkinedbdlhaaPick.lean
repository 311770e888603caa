/- The contracts of class.Pick and of the reference's. -/
import Derived.Test.YthhpkinedbdlhaaIndexFPick
namespace Go.Proofs.Ythhpkinedbdlhaa
open Go.RowKit
theorem pick_any (B : Nat) (w : World) (v : Value) (l : List Int) (n : Int) (h : LV B w v l) : Calls Try.prog 35 #[v, .int .i64 n] w fun e w' => e = .returned (.int .i64 (pickP l n)) ∧ Below w.heap.size w w' := by
  have hmf : ∀ (fn : Fn) (first cap : Array Value) (w : World), (Instr.makeFunc fn first cap).run Try.prog w = .ok (.func fn first cap) w := fun _ _ _ _ => rfl
  have hb : Below w.heap.size w (w.alloc (.cells #[.int .i64 n] 3)) := (Below.refl _ _).alloc (Nat.le_refl _) _
  have Hb := Lib.hid hb
  by_cases h1 : n < 1
  · rw [show pickP l n = -1 from if_pos h1]
    obtain ⟨a, c, rfl, _⟩ := h
    clear hb
    go_enter Try.func35, Try.ntmps35
    go_wp2_with fail
    go_ret
    exact ⟨rfl, Hb.out⟩
  · rw [show pickP l n = idxP (geP n) l from if_neg h1]
    have hc := Lib.hid (indexF_Pick B _ v l w.heap.size n (h.keep hb) (blk_new _ _))
    obtain ⟨a, c, rfl, _⟩ := h
    clear hb
    go_enter Try.func35, Try.ntmps35
    go_wp2_with fail
    refine hc.out.mono ?_
    rintro e w1 ⟨r, rfl, hx, rfl⟩
    have he := Lib.hid (hx.unique (idxP_idx (geP n) l))
    clear hx
    go_wp2_with fail
    go_ret
    exact ⟨by rw [← he.out]; rfl, Hb.out⟩
theorem rpick_any (B : Nat) (w : World) (v : Value) (l : List Int) (n : Int) (h : LV B w v l) : Calls Try.prog 36 #[v, .int .i64 n] w fun e w' => e = .returned (.int .i64 (pickP l n)) ∧ w = w' := by
  have H := Lib.hid h
  obtain ⟨a, c, rfl, hc, hm, _, _⟩ := h
  unfold maxLen at hm
  by_cases h1 : n < 1
  · rw [show pickP l n = -1 from if_pos h1]
    go_enter Try.func36, Try.ntmps36
    go_wp2_with fail
    go_loop [5] (fun i => ∃ k : Nat, k ≤ l.length ∧ i = .int .i64 k) (fun i => l.length - (intOf i).toNat)
    case atStart => exact ⟨0, Nat.zero_le _, rfl⟩
    case round =>
      obtain ⟨k, hk, rfl⟩ := hrel
      by_cases hlt : k < l.length
      · go_wp2_with fail
        go_round
        case rel => exact ⟨k + 1, hlt, by go_num⟩
        case measure => simp [intOf]; omega
      · obtain rfl : k = l.length := by omega
        go_wp2_with fail
        go_ret
        exact ⟨rfl, rfl⟩
  · rw [show pickP l n = idxP (geP n) l from if_neg h1]
    have h1' : 1 ≤ n := by omega
    clear h1
    go_enter Try.func36, Try.ntmps36
    go_wp2_with fail
    go_loop [5] (fun i => ∃ k : Nat, k ≤ l.length ∧ i = .int .i64 k ∧ Hid (NoneTo (geP n) l k)) (fun i => l.length - (intOf i).toNat)
    case atStart => exact ⟨0, Nat.zero_le _, rfl, Lib.hid (fun j hj => absurd hj (Nat.not_lt_zero j))⟩
    case round =>
      obtain ⟨k, hk, rfl, hno⟩ := hrel
      by_cases hlt : k < l.length
      · obtain ⟨gl, off, c', hv, hx⟩ := H.out.elem hlt
        cases hv
        have hx0 := hx _ (Below.refl _ _)
        clear hx
        by_cases hp : n ≤ l.getD k 0
        · have HP := Lib.hid ((Idx.some_ hlt hno.out (by simp only [geP, hp, decide_true])).unique (idxP_idx (geP n) l))
          generalize hz : l.getD k 0 = z at hx0 hp
          clear hz
          go_wp2_with fail
          go_ret
          exact ⟨by rw [← HP.out]; rfl, rfl⟩
        · have hp' : l.getD k 0 < n := by omega
          have HP := Lib.hid (hno.out.step (by simp only [geP, decide_eq_false_iff_not]; exact hp))
          generalize hz : l.getD k 0 = z at hx0 hp'
          clear hz hp
          go_wp2_with fail
          go_round
          case rel => exact ⟨k + 1, hlt, by go_num, HP⟩
          case measure => simp [intOf]; omega
      · obtain rfl : k = l.length := by omega
        have HP := Lib.hid ((Idx.none_ hno.out).unique (idxP_idx (geP n) l))
        go_wp2_with fail
        go_ret
        exact ⟨by rw [← HP.out]; rfl, rfl⟩
end Go.Proofs.Ythhpkinedbdlhaa
