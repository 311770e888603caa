/- The contracts of the functions that only read: may, due, small, same, sum. -/
import Derived.Test.YtejmggfofcfndaaLV
import Derived.Test.YtejmggfofcfndaaPlain
namespace Go.Proofs.Ytejmggfofcfndaa
open Go.RowKit

theorem getD_take_succ (l : List Int) (k : Nat) (h : k < l.length) : l.take (k + 1) = l.take k ++ [l.getD k 0] := by
  rw [List.take_succ_eq_append_getElem h]; simp [List.getD, h]

theorem rdue_any (w : World) (o k : Int) (ho : o ≤ 9223372036854775807) (hk : -9223372036854775808 ≤ k) : Calls Try.prog 12 #[.int .i64 o, .int .i64 k] w fun e w' => e = .returned (.bool (dueP o k)) ∧ w = w' := by
  by_cases h : k < o
  · have e : dueP o k = decide (k + 1 < o) := rfl
    rw [e]
    go_enter Try.func12, Try.ntmps12
    go_wp2_with fail
    go_ret
    exact ⟨rfl, rfl⟩
  · have e : dueP o k = false := by simp [dueP]; omega
    rw [e]
    go_enter Try.func12, Try.ntmps12
    go_wp2_with fail
    go_ret
    exact ⟨rfl, rfl⟩
theorem due_any (w : World) (o k : Int) (ho : -9223372036854775808 ≤ o ∧ o ≤ 9223372036854775807) (hk : -9223372036854775808 ≤ k ∧ k ≤ 9223372036854775807) : Calls Try.prog 11 #[.int .i64 o, .int .i64 k] w fun e w' => e = .returned (.bool (dueP o k)) ∧ w = w' := by
  by_cases h : k < o
  · have e : dueP o k = decide (1 < IntKind.u64.wrap (IntKind.u64.wrap o - IntKind.u64.wrap k)) := by
      unfold dueP
      have : (k + 1 < o) ↔ (1 < IntKind.u64.wrap (IntKind.u64.wrap o - IntKind.u64.wrap k)) := by
        simp only [IntKind.wrap_u64]
        omega
      simp only [this]
    rw [e]
    clear e
    go_enter Try.func11, Try.ntmps11
    go_wp2_with fail
    go_ret
    exact ⟨rfl, rfl⟩
  · have e : dueP o k = false := by simp [dueP]; omega
    rw [e]
    go_enter Try.func11, Try.ntmps11
    go_wp2_with fail
    go_ret
    exact ⟨rfl, rfl⟩

theorem mayP_take {l : List Int} {b : Int} {k : Nat} (h : k < l.length) : mayP (l.take (k + 1)) b = (mayP (l.take k) b && (decide (1 ≤ l.getD k 0) && decide (l.getD k 0 < b))) := by
  rw [getD_take_succ l k h]; simp [mayP]
theorem mayP_bad {l : List Int} {b : Int} {k : Nat} (h : k < l.length) (hx : l.getD k 0 < 1 ∨ b ≤ l.getD k 0) : mayP l b = false := by
  rw [Bool.eq_false_iff]
  intro hm
  have := mayP_mem.1 hm (l.getD k 0) (by simp [List.getD, h])
  omega
theorem rmay_any (B : Nat) (w : World) (v : Value) (l : List Int) (b : Int) (h : LV B w v l) : Calls Try.prog 10 #[v, .int .i64 b] w fun e w' => e = .returned (.bool (mayP l b)) ∧ w = w' := by
  have H := Lib.hid h
  obtain ⟨a, c, rfl, hc, hm, _, _⟩ := h
  unfold maxLen at hm
  go_enter Try.func10, Try.ntmps10
  go_wp2_with fail
  go_loop [5] (fun i => ∃ k : Nat, k ≤ l.length ∧ i = .int .i64 k ∧ Hid (mayP (l.take k) b = true)) (fun i => l.length - (intOf i).toNat)
  case atStart => exact ⟨0, Nat.zero_le _, rfl, Lib.hid rfl⟩
  case round =>
    obtain ⟨k, hk, rfl, hmay⟩ := hrel
    by_cases hlt : k < l.length
    · obtain ⟨g, off, c', hv, hx⟩ := H.out.elem hlt
      cases hv
      have hx0 := hx _ (Below.refl _ _)
      clear hx
      have ht := mayP_take (b := b) hlt
      have hbad := mayP_bad (b := b) hlt
      have Ht := Lib.hid ht
      have Hbad := Lib.hid hbad
      clear ht hbad
      generalize hz : l.getD k 0 = z at hx0 Ht Hbad
      clear hz
      by_cases h1 : 1 ≤ z
      · by_cases h2 : z < b
        · go_wp2_with fail
          go_round
          case rel => exact ⟨k + 1, hlt, by go_num, Lib.hid (by rw [Ht.out, hmay.out]; simp [h1, h2])⟩
          case measure => simp [intOf]; omega
        · have h2' : b ≤ z := by omega
          have hf := Lib.hid (Hbad.out (.inr h2'))
          clear h2
          go_wp2_with fail
          go_ret
          exact ⟨by rw [hf.out]; rfl, rfl⟩
      · have h1' : z < 1 := by omega
        have hf := Lib.hid (Hbad.out (.inl h1'))
        clear h1
        go_wp2_with fail
        go_ret
        exact ⟨by rw [hf.out]; rfl, rfl⟩
    · obtain rfl : k = l.length := by omega
      have hf := hmay.out
      rw [List.take_length] at hf
      have Hf := Lib.hid hf
      clear hf
      go_wp2_with fail
      go_ret
      exact ⟨by rw [Hf.out]; rfl, rfl⟩

/-- 12 counts at most, of 20 blocks at most, that may be -/
def smallP (l : List Int) (b : Int) : Bool := decide (l.length ≤ 12) && decide (b ≤ 20) && mayP l b
theorem small_any (B : Nat) (w : World) (v : Value) (l : List Int) (b : Int) (h : LV B w v l) : Calls Try.prog 13 #[v, .int .i64 b] w fun e w' => e = .returned (.bool (smallP l b)) ∧ w = w' := by
  have hr := rmay_any B w v l b h
  obtain ⟨a, c, rfl, hc, hm, _, _⟩ := h
  unfold maxLen at hm
  by_cases h1 : l.length ≤ 12
  · by_cases h2 : b ≤ 20
    · have e : smallP l b = mayP l b := by simp [smallP, h1, h2]
      rw [e]
      clear e
      go_enter Try.func13, Try.ntmps13
      go_wp2_with fail
      refine hr.mono ?_
      rintro e w1 ⟨rfl, rfl⟩
      clear hr
      go_wp2_with fail
      go_ret
      exact ⟨rfl, rfl⟩
    · have e : smallP l b = false := by simp [smallP, h2]
      rw [e]
      clear e hr
      go_enter Try.func13, Try.ntmps13
      go_wp2_with fail
      go_ret
      exact ⟨rfl, rfl⟩
  · have e : smallP l b = false := by simp [smallP, h1]
    rw [e]
    clear e hr
    go_enter Try.func13, Try.ntmps13
    go_wp2_with fail
    go_ret
    exact ⟨rfl, rfl⟩
theorem smallP_iff {l : List Int} {b : Int} : smallP l b = true ↔ l.length ≤ 12 ∧ b ≤ 20 ∧ mayP l b = true := by simp [smallP, and_assoc]

theorem sum_take {l : List Int} {k : Nat} (h : k < l.length) : (l.take (k + 1)).sum = (l.take k).sum + l.getD k 0 := by
  rw [getD_take_succ l k h]; simp
theorem sum_any (B : Nat) (w : World) (v : Value) (l : List Int) (h : LV B w v l) (hb : ∀ k, k ≤ l.length → 0 ≤ (l.take k).sum ∧ (l.take k).sum ≤ 100000) (hx : ∀ k, 0 ≤ l.getD k 0 ∧ l.getD k 0 ≤ 100000) : Calls Try.prog 19 #[v] w fun e w' => e = .returned (.int .i64 l.sum) ∧ w = w' := by
  have H := Lib.hid h
  have Hb := Lib.hid hb
  have Hx := Lib.hid hx
  obtain ⟨a, c, rfl, hc, hm, _, _⟩ := h
  unfold maxLen at hm
  clear hb hx
  go_enter Try.func19, Try.ntmps19
  go_wp2_with fail
  go_loop [3, 4] (fun s i => ∃ k : Nat, k ≤ l.length ∧ i = .int .i64 k ∧ s = .int .i64 (l.take k).sum) (fun _ i => l.length - (intOf i).toNat)
  case atStart => exact ⟨0, Nat.zero_le _, rfl, rfl⟩
  case round =>
    obtain ⟨k, hk, rfl, rfl⟩ := hrel
    have hs := Hb.out k hk
    by_cases hlt : k < l.length
    · obtain ⟨g, off, c', hv, hx⟩ := H.out.elem hlt
      cases hv
      have hx0 := hx _ (Below.refl _ _)
      have hz := Hx.out k
      have ht := Lib.hid (sum_take hlt)
      clear hx
      generalize hz' : l.getD k 0 = z at hx0 hz ht
      generalize hs' : (l.take k).sum = s at hs ht
      clear hz' hs'
      go_wp2_with fail
      go_round
      case rel => exact ⟨k + 1, hlt, by go_num, by rw [ht.out]⟩
      case measure => simp [intOf]; omega
    · obtain rfl : k = l.length := by omega
      rw [List.take_length] at hs
      rw [List.take_length]
      go_wp2_with fail
      go_ret
      exact ⟨rfl, rfl⟩
end Go.Proofs.Ytejmggfofcfndaa
