/- The contract of slices.IndexFunc at a closure over one number. -/
import Derived.Test.YthhpkinedbdlhaaIdx
import Derived.Test.YthhpkinedbdlhaaPickClo
namespace Go.Proofs.Ythhpkinedbdlhaa
open Go.RowKit
theorem indexF_Pick (B : Nat) (w : World) (v : Value) (l : List Int) (g : Nat) (b : Int) (h : LV B w v l) (hg : w.heap[g]? = some (.cells #[.int .i64 b] 3 (0, 0))) :
    Calls Try.prog 42 #[v, .func (.func 43) #[] #[.pointer (some ⟨g, 0, none⟩)]] w fun e w' => ∃ r, e = .returned (.int .i64 r) ∧ Idx (geP b) l r ∧ w = w' := by
  have H := Lib.hid h
  have Hg := Lib.hid hg
  obtain ⟨a, c, rfl, hc, hm, _, _⟩ := h
  unfold maxLen at hm
  clear hg
  go_enter Try.func42, Try.ntmps42
  go_wp2_with fail
  go_loop [8] (fun i => ∃ k : Nat, k ≤ l.length ∧ i = .int .i64 k ∧ Hid (NoneTo (geP b) l k)) (fun i => l.length - (intOf i).toNat)
  case atStart => exact ⟨0, Nat.zero_le _, rfl, Lib.hid (fun j hj => absurd hj (Nat.not_lt_zero j))⟩
  case round =>
    obtain ⟨k, hk, rfl, hno⟩ := hrel
    by_cases hlt : k < l.length
    · obtain ⟨gl, off, c', hv, hx⟩ := H.out.elem hlt
      cases hv
      have hx0 := hx _ (Below.refl _ _)
      clear hx
      have hcl := Lib.hid (clo_pick w g b (l.getD k 0) Hg.out)
      have hcase : geP b (l.getD k 0) = true ∨ geP b (l.getD k 0) = false := by cases geP b (l.getD k 0) <;> simp
      rcases hcase with hp | hp
      · have HP := Lib.hid (Idx.some_ hlt hno.out hp)
        have Hp := Lib.hid hp
        generalize hz : l.getD k 0 = z at hx0 hcl Hp
        clear hp hz
        go_wp2_with fail
        refine hcl.out.mono ?_
        rintro e w1 ⟨rfl, rfl⟩
        rw [Hp.out]
        go_wp2_with fail
        go_ret
        exact ⟨_, rfl, HP.out, rfl⟩
      · have HP := Lib.hid (hno.out.step hp)
        have Hp := Lib.hid hp
        generalize hz : l.getD k 0 = z at hx0 hcl Hp
        clear hp hz
        go_wp2_with fail
        refine hcl.out.mono ?_
        rintro e w1 ⟨rfl, rfl⟩
        rw [Hp.out]
        go_wp2_with fail
        go_round
        case rel => exact ⟨k + 1, hlt, by go_num, HP⟩
        case measure => simp [intOf]; omega
    · obtain rfl : k = l.length := by omega
      have HP := Lib.hid (Idx.none_ hno.out)
      go_wp2_with fail
      go_ret
      exact ⟨_, rfl, HP.out, rfl⟩
end Go.Proofs.Ythhpkinedbdlhaa
