/- Contracts of the reference's Add and Sum: for every list of at most 1000 whole numbers. -/
import Derived.Test.YtjjbglipnpkbmaaMeter
namespace Go.Proofs.Ytjjbglipnpkbmaa
open Go.RowKit

def sumM (zs : List Int) : Int := zs.foldl addM 0
theorem sumM_snoc (zs : List Int) (k : Nat) (h : k < zs.length) : sumM (zs.take (k + 1)) = addM (sumM (zs.take k)) (zs.getD k 0) := by
  unfold sumM
  rw [List.take_succ_eq_append_getElem h, List.foldl_append]
  simp [List.getD, h]
theorem addM_range (t n : Int) (h0 : 0 ≤ t) (h1 : t ≤ 4611686018427387904) : 0 ≤ addM t n ∧ addM t n ≤ 4611686018427387904 := by
  unfold addM
  split
  · omega
  · split <;> omega
theorem sumM_range (zs : List Int) : 0 ≤ sumM zs ∧ sumM zs ≤ 4611686018427387904 := by
  have h : ∀ (l : List Int) (t : Int), 0 ≤ t → t ≤ 4611686018427387904 → 0 ≤ l.foldl addM t ∧ l.foldl addM t ≤ 4611686018427387904 := by
    intro l
    induction l with
    | nil => exact fun t a b => ⟨a, b⟩
    | cons x l ih => exact fun t a b => ih _ (addM_range t x a b).1 (addM_range t x a b).2
  exact h zs 0 (by omega) (by omega)

theorem add_any (w : World) (t n : Int) (h0 : 0 ≤ t) (h1 : t ≤ 4611686018427387904) (hn : n ≤ 9223372036854775807) : Calls Try.prog 15 #[.int .i64 t, .int .i64 n] w fun e w' => e = .returned (.int .i64 (addM t n)) ∧ w = w' := by
  by_cases k1 : n < 1
  · go_enter Try.func15, Try.ntmps15
    go_wp2
    go_ret
    exact ⟨by rw [addM, if_pos (by omega)]; rfl, rfl⟩
  · by_cases k2 : 4611686018427387904 - t < n
    · go_enter Try.func15, Try.ntmps15
      go_wp2
      go_ret
      exact ⟨by rw [addM, if_neg (by omega), if_pos (by omega)]; rfl, rfl⟩
    · go_enter Try.func15, Try.ntmps15
      go_wp2
      go_ret
      exact ⟨by rw [addM, if_neg (by omega), if_neg (by omega)]; rfl, rfl⟩

theorem sum_len (w : World) (a : Option Addr) (c : Nat) (zs : List Int) (hz : Reads .i64 w a zs) (hl : zs.length ≤ 1000) (hw : ∀ i, zs.getD i 0 ≤ 9223372036854775807) :
    Calls Try.prog 12 #[.slice a zs.length c] w fun e w' => e = .returned (.int .i64 (sumM zs)) ∧ w = w' := by
  rcases hz with h0 | ⟨b, off, rfl, hc⟩
  · go_enter Try.func12, Try.ntmps12
    go_wp2
    refine wp_loop_rounds 1 ?_
    rw [rounds_succ]
    go_wp2
    go_ret
    have : zs = [] := List.length_eq_zero_iff.1 h0
    subst this
    exact ⟨rfl, rfl⟩
  · go_enter Try.func12, Try.ntmps12
    go_wp2
    go_loop [3, 4] (fun t i => ∃ k : Nat, k ≤ zs.length ∧ i = .int .i64 k ∧ t = .int .i64 (sumM (zs.take k))) (fun _ i => zs.length - (intOf i).toNat)
    case atStart => exact ⟨0, Nat.zero_le _, rfl, rfl⟩
    case round =>
      obtain ⟨k, hk, rfl, rfl⟩ := hrel
      by_cases hlt : k < zs.length
      · have hcell := hc k hlt
        have hr := sumM_range (zs.take k)
        have hn := hw k
        have hs := sumM_snoc zs k hlt
        obtain ⟨x, hx⟩ : ∃ x, x = zs.getD k 0 := ⟨_, rfl⟩
        rw [← hx] at hcell hn hs
        have Hs := Lib.hid hs
        clear hc hw hx hs
        go_wp2_with (go_at_call 15; refine (add_any _ _ _ hr.1 hr.2 hn).mono ?_; rintro e w' ⟨rfl, rfl⟩)
        go_round
        case rel => exact ⟨k + 1, by omega, by go_num, by rw [Hs.out]⟩
        case measure => simp [intOf]; omega
      · clear hc
        go_wp2
        go_ret
        exact ⟨by rw [List.take_of_length_le (by omega)]; rfl, rfl⟩
theorem sum_any (w : World) (a : Option Addr) (n c : Nat) (zs : List Int) (hn : zs.length = n) (hz : Reads .i64 w a zs) (hl : n ≤ 1000) (hw : ∀ i, zs.getD i 0 ≤ 9223372036854775807) :
    Calls Try.prog 12 #[.slice a n c] w fun e w' => e = .returned (.int .i64 (sumM zs)) ∧ w' = w := by
  subst hn
  exact (sum_len w a c zs hz hl hw).mono fun _ _ ⟨h1, h2⟩ => ⟨h1, h2.symm⟩
end Go.Proofs.Ytjjbglipnpkbmaa
