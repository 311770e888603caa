/- The contract of the reference's Moves. -/
import Derived.Test.YtejmggfofcfndaaRNext
namespace Go.Proofs.Ytejmggfofcfndaa
open Go.RowKit

theorem sum_le19 : ∀ (l : List Int) (b : Int), b ≤ 20 → mayP l b = true → l.sum ≤ 19 * l.length
  | [], _, _, _ => by simp
  | x :: l, b, hb, h => by
    have h1 := mayP_cons.1 h
    have := sum_le19 l b hb h1.2
    simp only [List.length_cons, List.sum_cons, Int.natCast_add, Int.natCast_one]
    omega
theorem rest_le {l : List Int} {b : Int} (hb : b ≤ 20) (hl : l.length ≤ 12) (h : mayP l b = true) : rest l ≤ 228 := by
  cases l with
  | nil => simp [rest]
  | cons x l =>
    have := sum_le19 l b hb (mayP_cons.1 h).2
    simp only [rest, List.tail_cons]
    simp at hl
    omega
/-- between two moves: so many are done, these pages are left -/
def At (l0 : List Int) (b k : Int) (l : List Int) (m : Nat) : Prop := mayP l b = true ∧ l.length ≤ l0.length ∧ rest l + m ≤ rest l0 ∧ mvs b k (rest l + 1).toNat l m = movesP l0 b k
theorem at_start {l : List Int} {b k : Int} (h : mayP l b = true) : At l b k l 0 := ⟨h, Nat.le_refl _, by omega, rfl⟩
theorem at_step {l0 l : List Int} {b k : Int} {m : Nat} (h : At l0 b k l m) (hd : dueP l.length k = true) (h2 : 2 ≤ l.length) : At l0 b k (nextP l b) (m + 1) := by
  obtain ⟨h1, hl, hr, hm⟩ := h
  have hn := next_keeps h2 h1
  have h3 := rest_next h2 h1
  have hp := rest_nonneg h1
  have hp2 := rest_nonneg hn.1
  refine ⟨hn.1, by omega, by push_cast; omega, ?_⟩
  obtain ⟨f, hf⟩ : ∃ f, (rest l + 1).toNat = f + 1 := ⟨(rest l).toNat, by omega⟩
  rw [hf] at hm
  simp only [mvs] at hm
  rw [if_pos hd, if_neg (by omega)] at hm
  rw [← hm]
  exact (mvs_more b k (rest (nextP l b) + 1).toNat (nextP l b) (m + 1) hn.1 (by omega) f (by omega)).symm
theorem at_end {l0 l : List Int} {b k : Int} {m : Nat} (h : At l0 b k l m) (hd : dueP l.length k = false) : m = movesP l0 b k := by
  obtain ⟨h1, hl, hr, hm⟩ := h
  have hp := rest_nonneg h1
  obtain ⟨f, hf⟩ : ∃ f, (rest l + 1).toNat = f + 1 := ⟨(rest l).toNat, by omega⟩
  rw [hf] at hm
  simp only [mvs] at hm
  rw [if_neg (by simp [hd])] at hm
  exact hm
theorem at_none {l0 l : List Int} {b k : Int} {m : Nat} (h : At l0 b k l m) (hd : dueP l.length k = true) (h2 : l.length < 2) : movesP l0 b k = 0 := by
  obtain ⟨h1, hl, hr, hm⟩ := h
  have hp := rest_nonneg h1
  obtain ⟨f, hf⟩ : ∃ f, (rest l + 1).toNat = f + 1 := ⟨(rest l).toNat, by omega⟩
  rw [hf] at hm
  simp only [mvs] at hm
  rw [if_pos hd, if_pos h2] at hm
  exact hm.symm

set_option maxHeartbeats 2000000 in
theorem rmoves_any (w : World) (v : Value) (l : List Int) (b k : Int) (h : LV 0 w v l) (hl : l.length ≤ 12) (hb : b ≤ 20) (hm : mayP l b = true) (hk : -9223372036854775808 ≤ k ∧ k ≤ 9223372036854775807) :
    Calls Try.prog 18 #[v, .int .i64 b, .int .i64 k] w fun e w' => e = .returned (.int .i64 (movesP l b k)) ∧ Below w.heap.size w w' := by
  have H := Lib.hid h
  have hr0 := rest_le hb hl hm
  have hst := Lib.hid (at_start (k := k) hm)
  generalize hrr : rest l = R0 at hr0
  have Hrr := Lib.hid hrr
  clear h hm hrr
  go_enter Try.func18, Try.ntmps18
  go_wp2_with fail
  go_loopw [0, 7] (fun v n wr => ∃ (l1 : List Int) (m : Nat), n = .int .i64 m ∧ LV 0 wr v l1 ∧ At l b k l1 m ∧ (m : Int) ≤ R0 ∧ Below w.heap.size w wr) (fun _ n _ => (R0 + 1 - intOf n).toNat)
  case atStart => exact ⟨l, 0, rfl, H.out, hst.out, by have := rest_nonneg hst.out.1; have := Hrr.out; push_cast; omega, Below.refl _ _⟩
  case round =>
    obtain ⟨l1, m, rfl, hv, hat, hmr, br⟩ := hrel
    have HV := Lib.hid hv
    have HA := Lib.hid hat
    have hl1 : l1.length ≤ 12 := Nat.le_trans hat.2.1 hl
    obtain ⟨a, c, rfl, hc, hmx, _, _⟩ := hv
    unfold maxLen at hmx
    clear hat
    cases hd : dueP l1.length k with
    | false =>
      have Hd := Lib.hid hd
      clear hd
      go_wp2_with fail
      refine (rdue_any _ _ k (by omega) hk.1).mono ?_
      rintro e w1 ⟨rfl, rfl⟩
      rw [Hd.out]
      have he := Lib.hid (at_end HA.out Hd.out)
      go_wp2_with fail
      go_ret
      exact ⟨by rw [← he.out]; rfl, br⟩
    | true =>
      have Hd := Lib.hid hd
      clear hd
      go_wp2_with fail
      refine (rdue_any _ _ k (by omega) hk.1).mono ?_
      rintro e w1 ⟨rfl, rfl⟩
      rw [Hd.out]
      by_cases h2 : l1.length < 2
      · have he := Lib.hid (at_none HA.out Hd.out h2)
        go_wp2_with fail
        go_ret
        exact ⟨by rw [he.out]; rfl, br⟩
      · have hs := Lib.hid (at_step HA.out Hd.out (by omega))
        have hm1 : (m : Int) + 1 ≤ R0 := by
          have h1 := hs.out.2.2.1
          have h3 := rest_nonneg hs.out.1
          have := Hrr.out
          push_cast at h1
          omega
        go_wp2_with fail
        refine (rnext_any 0 wr _ l1 b HV.out (Nat.zero_le _) hl1 hb HA.out.1).mono ?_
        rintro e w1 ⟨v1, rfl, hv1, b1⟩
        have HV1 := Lib.hid hv1
        clear hv1
        go_wp2_with fail
        go_roundw
        case rel => exact ⟨_, m + 1, by go_num, HV1.out, hs.out, by push_cast; omega, br.trans (b1.mono br.size)⟩
        case measure => simp [intOf]; omega
end Go.Proofs.Ytejmggfofcfndaa
