/- The walks through the laws PlanKeeps, PlanBound and PlanLess. -/
import Derived.Test.YtejmggfofcfndaaLaws
import Derived.IntWalk
namespace Go.Proofs.Ytejmggfofcfndaa
open Go.RowKit

theorem may_take {l : List Int} {b : Int} (h : mayP l b = true) (k : Nat) : mayP (l.take k) b = true := mayP_mem.2 (fun x hx => mayP_mem.1 h x (List.mem_of_mem_take hx))
theorem sums_ok {l : List Int} {b : Int} (hl : l.length ≤ 12) (hb : b ≤ 20) (h : mayP l b = true) : ∀ k, k ≤ l.length → 0 ≤ (l.take k).sum ∧ (l.take k).sum ≤ 100000 := fun k _ => by
  have h1 := may_take h k
  have h2 := sum_pos _ b h1
  have h3 := sum_le19 _ b hb h1
  have h4 : (l.take k).length ≤ l.length := List.length_take_le' _ _
  omega
theorem elems_ok {l : List Int} {b : Int} (hb : b ≤ 20) (h : mayP l b = true) : ∀ k, 0 ≤ l.getD k 0 ∧ l.getD k 0 ≤ 100000 := fun k => by
  by_cases hk : k < l.length
  · have := may_at h hk; omega
  · simp [List.getD, hk]
theorem sum_ok {l : List Int} {b : Int} (hl : l.length ≤ 12) (hb : b ≤ 20) (h : mayP l b = true) : 0 ≤ l.sum ∧ l.sum ≤ 228 := by
  have h2 := sum_pos _ b h
  have h3 := sum_le19 _ b hb h
  omega

set_option maxHeartbeats 2000000 in
theorem lawKeeps_any (w : World) (v : Value) (l : List Int) (b : Int) (h : LV 0 w v l) (hbl : -9223372036854775808 ≤ b) : Calls Try.prog 5 #[v, .int .i64 b] w fun e w' => e = .returned (.bool true) ∧ Below w.heap.size w w' := by
  have H := Lib.hid h
  obtain ⟨a, c, rfl, hc, hm, _, _⟩ := h
  unfold maxLen at hm
  cases hs : smallP l b with
  | false =>
    have HS := Lib.hid hs
    clear hs
    go_enter Try.func5, Try.ntmps5
    go_wp2_with fail
    refine (awake_any _).mono ?_
    rintro e w1 ⟨rfl, b1⟩
    go_wp2_with fail
    refine (small_any 0 _ _ l b (H.out.keep b1)).mono ?_
    rintro e w2 ⟨rfl, rfl⟩
    rw [HS.out]
    go_wp2_with fail
    go_ret
    exact ⟨rfl, b1⟩
  | true =>
    obtain ⟨hl, hb, hmay⟩ := smallP_iff.1 hs
    have HS := Lib.hid hs
    have HM := Lib.hid hmay
    clear hs hmay
    by_cases h2 : l.length < 2
    · have hn := Lib.hid (next_small b h2)
      go_enter Try.func5, Try.ntmps5
      go_wp2_with fail
      refine (awake_any _).mono ?_
      rintro e w1 ⟨rfl, b1⟩
      have H1 := Lib.hid (H.out.keep b1)
      go_wp2_with fail
      refine (small_any 0 _ _ l b H1.out).mono ?_
      rintro e w2 ⟨rfl, rfl⟩
      rw [HS.out]
      go_wp2_with fail
      refine (next_any 0 _ _ l b H1.out (Nat.zero_le _) hl hb HM.out).mono ?_
      rintro e w4 ⟨v4, rfl, l4, b4⟩
      rw [hn.out] at l4
      have L4 := Lib.hid l4
      have H4 := Lib.hid (H1.out.keep b4)
      have BW4 := Lib.hid (b1.trans (b4.mono b1.size))
      clear l4
      go_wp2_with fail
      refine (same_any 0 0 _ _ _ l L4.out H4.out).mono ?_
      rintro e w6 ⟨rfl, k6⟩
      have BW6 := BW4.out.trans ((below_of_keepF k6).mono BW4.out.size)
      go_wp2_with fail
      go_ret
      exact ⟨rfl, BW6⟩
    · have h2' : 2 ≤ l.length := by omega
      clear h2
      obtain ⟨n1, n2, n3, n4, n5⟩ := next_keeps h2' HM.out
      have HN1 := Lib.hid n1
      have hS1 := sum_ok hl hb HM.out
      have hS2 := sum_ok (Nat.le_trans n2 hl) hb n1
      have h0 := may_at HM.out (k := 0) (by omega)
      have N4 := Lib.hid n4
      have N5 := Lib.hid n5
      have SO1 := Lib.hid (sums_ok hl hb HM.out)
      have SO2 := Lib.hid (sums_ok (Nat.le_trans n2 hl) hb n1)
      have EO1 := Lib.hid (elems_ok hb HM.out)
      have EO2 := Lib.hid (elems_ok hb n1)
      have hn3' : (l.length : Int) - 2 ≤ (nextP l b).length := by omega
      clear n1 n4 n5
      obtain ⟨nl, hnl⟩ : ∃ nl, nl = (nextP l b).length := ⟨_, rfl⟩
      rw [← hnl] at n2 n3 hn3'
      have Hnl := Lib.hid hnl
      clear hnl
      go_enter Try.func5, Try.ntmps5
      go_wp2_with fail
      refine (awake_any _).mono ?_
      rintro e w1 ⟨rfl, b1⟩
      have H1 := Lib.hid (H.out.keep b1)
      go_wp2_with fail
      refine (small_any 0 _ _ l b H1.out).mono ?_
      rintro e w2 ⟨rfl, rfl⟩
      rw [HS.out]
      go_wp2_with fail
      refine (next_any 0 _ _ l b H1.out (Nat.zero_le _) hl hb HM.out).mono ?_
      rintro e w4 ⟨v4, rfl, l4, b4⟩
      have L4 := Lib.hid l4
      have H4 := Lib.hid (H1.out.keep b4)
      have BW4 := Lib.hid (b1.trans (b4.mono b1.size))
      obtain ⟨a4, c4, rfl, q1, q2, _, _⟩ := l4
      unfold maxLen at q2
      rw [← Hnl.out] at q1 ⊢ L4
      go_wp2_with fail
      refine (sum_any 0 _ _ l H4.out SO1.out EO1.out).mono ?_
      rintro e w5 ⟨rfl, rfl⟩
      go_wp2_with fail
      refine (sum_any 0 _ _ (nextP l b) L4.out SO2.out EO2.out).mono ?_
      rintro e w5 ⟨rfl, rfl⟩
      obtain ⟨g, off, c', hv, hx⟩ := H4.out.elem (k := 0) (by omega)
      cases hv
      have hx0 := hx _ (Below.refl _ _)
      rw [Nat.add_zero] at hx0
      clear hx
      generalize hz : l.getD 0 0 = z at hx0 h0 N4 N5
      generalize hz1 : l.sum = s1 at hS1 N4 N5 ⊢
      generalize hz2 : (nextP l b).sum = s2 at hS2 N4 N5 ⊢
      clear hz hz1 hz2
      by_cases hf : z = b - 1
      · have hd : s1 - s2 = b := by have := N4.out hf; omega
        have hd1 : s1 = s2 + b := by omega
        subst hd1
        subst hf
        clear hd
        go_wp2_with fail
        refine (may_any 0 _ _ (nextP l b) b L4.out).mono ?_
        rintro e w6 ⟨rfl, b6⟩
        rw [HN1.out]
        have BW6 := BW4.out.trans (b6.mono BW4.out.size)
        go_wp2_with fail
        go_ret
        exact ⟨rfl, BW6⟩
      · have hd : s1 = s2 := by have := N5.out hf; omega
        subst hd
        have e0 : (z == b - 1) = false := beq_eq_false_iff_ne.2 hf
        clear hf
        go_wp2_with fail
        refine (may_any 0 _ _ (nextP l b) b L4.out).mono ?_
        rintro e w6 ⟨rfl, b6⟩
        rw [HN1.out]
        have BW6 := BW4.out.trans (b6.mono BW4.out.size)
        go_wp2_with fail
        go_ret
        exact ⟨rfl, BW6⟩
end Go.Proofs.Ytejmggfofcfndaa
