/- The walks through the laws PlanBound and PlanLess. -/
import Derived.Test.YtejmggfofcfndaaLaws2
namespace Go.Proofs.Ytejmggfofcfndaa
open Go.RowKit

/-- no more moves than blocks less 1, for each page that is too much -/
theorem bound_ok {l : List Int} {b k : Int} (hk : 0 ≤ k) (hl : l.length ≤ 12) (hb : b ≤ 20) (h : mayP l b = true) :
    (l.length - 1 - k ≤ 0 ∧ movesP l b k = 0) ∨ (0 < l.length - 1 - k ∧ (movesP l b k : Int) ≤ (l.length - 1 - k) * (b - 1) ∧ 0 ≤ (l.length - 1 - k) * (b - 1) ∧ (l.length - 1 - k) * (b - 1) ≤ 228) := by
  by_cases hd : dueP l.length k = true
  · have hd' : k + 1 < (l.length : Int) := by simpa [dueP] using hd
    have hla := last_mem (by omega) h
    have hm := moves_bound b k hk (rest l + 1).toNat l (by have := rest_nonneg h; omega) h hd
    have e : ((l.length : Int) - 1 - k) * (b - 1) = (l.length - 2 - k) * (b - 1) + (b - 1) := by
      rw [show (l.length : Int) - 1 - k = (l.length - 2 - k) + 1 from by omega, Int.add_mul, Int.one_mul]
    refine .inr ⟨by omega, by omega, Int.mul_nonneg (by omega) (by omega), ?_⟩
    have h1 : ((l.length : Int) - 1 - k) * (b - 1) ≤ 12 * (b - 1) := Int.mul_le_mul_of_nonneg_right (by omega) (by omega)
    omega
  · have hd2 : dueP l.length k = false := by simpa using hd
    refine .inl ⟨?_, moves_not hd2 h⟩
    simp only [dueP, decide_eq_false_iff_not] at hd2
    omega
theorem bound_ok2 {l : List Int} {b k : Int} (hk : 0 ≤ k) (hl : l.length ≤ 12) (hb : b ≤ 20) (h : mayP l b = true) :
    ((l.length : Int) - 1 - k < 0 ∧ (movesP l b k : Int) ≤ 0) ∨ (0 ≤ (l.length : Int) - 1 - k ∧ 1 ≤ b ∧ ∃ q : Int, ((l.length : Int) - 1 - k) * (b - 1) = q ∧ 0 ≤ q ∧ q ≤ 228 ∧ (movesP l b k : Int) ≤ q) := by
  have h1 : 0 ≤ (l.length : Int) - 1 - k → 1 ≤ b := fun h2 => by have := last_mem (by omega) h; omega
  rcases bound_ok hk hl hb h with ⟨hx, h0⟩ | ⟨hx, h2, h3, h4⟩
  · by_cases hy : (l.length : Int) - 1 - k < 0
    · exact .inl ⟨hy, by omega⟩
    · exact .inr ⟨by omega, h1 (by omega), 0, by rw [show (l.length : Int) - 1 - k = 0 from by omega, Int.zero_mul], by omega, by omega, by omega⟩
  · exact .inr ⟨by omega, h1 (by omega), _, rfl, h3, h4, h2⟩
theorem at_more {l0 l : List Int} {b k : Int} {m : Nat} (hk : 0 ≤ k) (h : At l0 b k l m) (hm : m = movesP l0 b k) : dueP l.length k = false := by
  cases hd : dueP l.length k with
  | false => rfl
  | true =>
    obtain ⟨h1, hl, hr, hv⟩ := h
    rcases mvs_shift b k (rest l + 1).toNat l m hk with h2 | h2 | h2
    · rw [h2] at hv
      have h3 : movesP l b k = 0 := by unfold movesP; omega
      rw [moves_due hk h1 hd] at h3
      omega
    · have := rest_nonneg h1
      omega
    · exact absurd h1 h2

set_option maxHeartbeats 2000000 in
theorem lawBound_any (w : World) (v : Value) (l : List Int) (b k0 : Int) (h : LV 0 w v l) (hbl : -9223372036854775808 ≤ b) (hk0 : 0 ≤ k0 ∧ k0 ≤ 255) : Calls Try.prog 6 #[v, .int .i64 b, .int .u8 k0] w fun e w' => e = .returned (.bool true) ∧ Below w.heap.size w w' := by
  have H := Lib.hid h
  obtain ⟨a, c, rfl, hc, hm, _, _⟩ := h
  unfold maxLen at hm
  cases hs : smallP l b with
  | false =>
    have HS := Lib.hid hs
    clear hs
    go_enter Try.func6, Try.ntmps6
    go_wp2_with fail
    refine (awake_any _).mono ?_
    rintro e w1 ⟨rfl, b1⟩
    go_wp2_with fail
    refine (small_any 0 _ _ l b (H.out.keep b1)).mono ?_
    rintro e w2 ⟨rfl, rfl⟩
    rw [HS.out]
    go_wp2_with fail
    go_ret
    exact ⟨rfl, b1⟩
  | true =>
    obtain ⟨hl, hb, hmay⟩ := smallP_iff.1 hs
    obtain ⟨k, hk⟩ : ∃ k : Int, k = k0 % 14 := ⟨_, rfl⟩
    have hk1 : 0 ≤ k ∧ k ≤ 13 := by omega
    have HK := Lib.hid hk
    have HS := Lib.hid hs
    have HM := Lib.hid hmay
    have hbo := bound_ok2 hk1.1 hl hb hmay
    have hst := Lib.hid (at_start (k := k) hmay)
    obtain ⟨m, hmm⟩ : ∃ m : Nat, m = movesP l b k := ⟨_, rfl⟩
    rw [← hmm] at hbo
    have HMM := Lib.hid hmm
    have HBO := Lib.hid hbo
    clear hs hmay hk hbo hmm
    go_enter Try.func6, Try.ntmps6
    go_wp2_with fail
    refine (awake_any _).mono ?_
    rintro e w1 ⟨rfl, b1⟩
    have H1 := Lib.hid (H.out.keep b1)
    go_wp2_with fail
    refine (small_any 0 _ _ l b H1.out).mono ?_
    rintro e w2 ⟨rfl, rfl⟩
    rw [HS.out]
    go_wp2_with fail
    rw [← HK.out]
    refine (moves_any _ _ l b k H1.out hl hb HM.out ⟨by omega, by omega⟩).mono ?_
    rintro e w3 ⟨rfl, b3⟩
    rw [← HMM.out]
    have H3 := Lib.hid (H1.out.keep b3)
    have BW3 := Lib.hid (b1.trans (b3.mono b1.size))
    have hm1 : (m : Int) ≤ 100000 := by rcases HBO.out with ⟨_, h⟩ | ⟨_, _, q, _, h1, h2, h3⟩ <;> omega
    obtain ⟨X, hX⟩ : ∃ X : Int, (l.length : Int) - 1 - k = X := ⟨_, rfl⟩
    have HBO2 := HBO.out
    rw [hX] at HBO2
    have hXb : -20 ≤ X ∧ X ≤ 12 := by omega
    rcases HBO2 with ⟨hx, h0⟩ | ⟨hx, hb1, q, hq, h1, h2, h3⟩
    · have hx' : decide (X < 0) = true := by simpa using hx
      obtain rfl : m = 0 := by omega
      clear h0
      go_wp2_with fail
      go_loopw [10, 11] (fun v i wr => ∃ (l1 : List Int) (j : Nat), i = .int .i64 j ∧ LV 0 wr v l1 ∧ At l b k l1 j ∧ j ≤ 0 ∧ Below w.heap.size w wr) (fun _ i _ => 0 - (intOf i).toNat)
      case atStart => exact ⟨l, 0, rfl, H3.out, hst.out, Nat.zero_le _, BW3.out⟩
      case round =>
        obtain ⟨l1, j, rfl, hv, hat, hj, br⟩ := hrel
        have HV := Lib.hid hv
        have HA := Lib.hid hat
        have hl1 : l1.length ≤ 12 := Nat.le_trans hat.2.1 hl
        obtain ⟨a1, c1, rfl, q1, q2, _, _⟩ := hv
        unfold maxLen at q2
        clear hat
        obtain rfl : j = 0 := by omega
        have Hd := Lib.hid (at_more hk1.1 HA.out HMM.out)
        go_wp2_with fail
        refine (due_any _ l1.length k ⟨by omega, by omega⟩ ⟨by omega, by omega⟩).mono ?_
        rintro e w4 ⟨rfl, rfl⟩
        rw [Hd.out]
        go_wp2_with fail
        go_ret
        exact ⟨rfl, br⟩

    · have hx' : decide (X < 0) = false := by simp; omega
      have hm0 : decide ((m : Int) < 0) = false := by simp
      have hmq : decide (q < (m : Int)) = false := by simp; omega
      go_wp2_with fail
      go_loopw [10, 11] (fun v i wr => ∃ (l1 : List Int) (j : Nat), i = .int .i64 j ∧ LV 0 wr v l1 ∧ At l b k l1 j ∧ j ≤ m ∧ Below w.heap.size w wr) (fun _ i _ => m - (intOf i).toNat)
      case atStart => exact ⟨l, 0, rfl, H3.out, hst.out, Nat.zero_le _, BW3.out⟩
      case round =>
        obtain ⟨l1, j, rfl, hv, hat, hj, br⟩ := hrel
        have HV := Lib.hid hv
        have HA := Lib.hid hat
        have hl1 : l1.length ≤ 12 := Nat.le_trans hat.2.1 hl
        obtain ⟨a1, c1, rfl, q1, q2, _, _⟩ := hv
        unfold maxLen at q2
        clear hat
        by_cases hlt : j < m
        · have hd : dueP l1.length k = true := by
            cases hd : dueP l1.length k with
            | true => rfl
            | false =>
              have h5 := at_end HA.out hd
              have h6 := HMM.out
              omega
          have Hd := Lib.hid hd
          have hs2 := Lib.hid (at_step HA.out hd (by simp only [dueP, decide_eq_true_eq] at hd; omega))
          clear hd
          go_wp2_with fail
          refine (due_any _ l1.length k ⟨by omega, by omega⟩ ⟨by omega, by omega⟩).mono ?_
          rintro e w4 ⟨rfl, rfl⟩
          rw [Hd.out]
          go_wp2_with fail
          refine (next_any 0 _ _ l1 b HV.out (Nat.zero_le _) hl1 hb HA.out.1).mono ?_
          rintro e w4 ⟨v4, rfl, l4, b4⟩
          have L4 := Lib.hid l4
          clear l4
          go_wp2_with fail
          go_roundw
          case rel => first | exact ⟨_, j + 1, by go_num, L4.out, hs2.out, hlt, br.trans (b4.mono br.size)⟩ | ((repeat apply Exists.intro); exact ⟨⟨_, j + 1, by go_num, L4.out, hs2.out, hlt, br.trans (b4.mono br.size)⟩, rfl⟩)
          case measure => simp [intOf]; omega
        · obtain rfl : j = m := by omega
          have Hd := Lib.hid (at_more hk1.1 HA.out HMM.out)
          go_wp2_with fail
          refine (due_any _ l1.length k ⟨by omega, by omega⟩ ⟨by omega, by omega⟩).mono ?_
          rintro e w4 ⟨rfl, rfl⟩
          rw [Hd.out]
          go_wp2_with fail
          go_ret
          exact ⟨rfl, br⟩

theorem open_elem {w : World} {a : Option Addr} {c : Nat} {l : List Int} (h : LV 0 w (.slice a l.length c) l) : LV 0 w (.slice a (l.take 1).length c) (l.take 1) := by
  obtain ⟨a', c', e, h1, h2, h3, h4⟩ := h
  cases e
  exact ⟨a, c, rfl, by simp; omega, h2, h3, h4.take 1⟩

set_option maxHeartbeats 2000000 in
theorem lawLess_any (w : World) (v : Value) (l : List Int) (b x y : Int) (h : LV 0 w v l) (hx : 0 ≤ x ∧ x ≤ 255) (hy : 0 ≤ y ∧ y ≤ 255) : Calls Try.prog 7 #[v, .int .i64 b, .agg #[.int .u8 x, .int .u8 y]] w fun e w' => e = .returned (.bool true) ∧ Below w.heap.size w w' := by
  have H := Lib.hid h
  obtain ⟨a, c, rfl, hc, hm, _, _⟩ := h
  unfold maxLen at hm
  have bX : Below w.heap.size w (w.alloc (.cells #[.int .u8 x, .int .u8 y] 32)) := (Below.refl _ _).alloc (Nat.le_refl _) _
  have BX := Lib.hid bX
  have hX := Lib.hid (blk_new w (.cells #[.int .u8 x, .int .u8 y] 32))
  have HX := Lib.hid (H.out.keep bX)
  clear bX
  cases hs : smallP l b with
  | false =>
    have HS := Lib.hid hs
    clear hs
    go_enter Try.func7, Try.ntmps7
    go_wp2_with fail
    refine (awake_any _).mono ?_
    rintro e w1 ⟨rfl, b1⟩
    have BW1 := Lib.hid (BX.out.trans (b1.mono BX.out.size))
    go_wp2_with fail
    refine (small_any 0 _ _ l b (HX.out.keep b1)).mono ?_
    rintro e w2 ⟨rfl, rfl⟩
    rw [HS.out]
    go_wp2_with fail
    go_ret
    exact ⟨rfl, BW1.out⟩
  | true =>
    obtain ⟨hl, hb, hmay⟩ := smallP_iff.1 hs
    have HS := Lib.hid hs
    have HM := Lib.hid hmay
    clear hs hmay
    have HO : 1 < (l.length : Int) → Hid (∀ W, Below w.heap.size w W → LV 0 W (.slice a 1 c) (l.take 1)) := fun h1 => Lib.hid (fun W hW => by
      have h2 := (open_elem H.out).keep hW
      have e : (l.take 1).length = 1 := by rw [List.length_take]; omega
      rw [e] at h2
      exact h2)
    have HHO := Lib.hid HO
    clear HO
    rcases (show x < y ∨ x = y ∨ y < x by omega) with hxy | hxy | hxy
    · by_cases h1 : 1 < (l.length : Int)
      · have HO := HHO.out h1
        go_enter Try.func7, Try.ntmps7
        go_wp2_with fail
        refine (awake_any _).mono ?_
        rintro e w1 ⟨rfl, b1⟩
        have BW1 := Lib.hid (BX.out.trans (b1.mono BX.out.size))
        have X1 := below_blk b1 hX.out (by simp)
        have cx := blk_cell X1 0
        have cy := blk_cell X1 1
        have H1 := Lib.hid (HX.out.keep b1)
        clear X1
        go_wp2_with fail
        refine (small_any 0 _ _ l b H1.out).mono ?_
        rintro e w2 ⟨rfl, rfl⟩
        rw [HS.out]
        go_wp2_with fail
        refine (moves_any _ _ l b y H1.out hl hb HM.out ⟨by omega, by omega⟩).mono ?_
        rintro e w2 ⟨rfl, b2⟩
        go_wp2_with fail
        refine (moves_any _ _ l b x (H1.out.keep b2) hl hb HM.out ⟨by omega, by omega⟩).mono ?_
        rintro e w3 ⟨rfl, b3⟩
        have hle := moves_less b x y (by omega) (by omega) (rest l + 1).toNat l (by have := rest_nonneg HM.out; omega) HM.out
        have hle' : ((movesP l b y : Nat) : Int) ≤ ((movesP l b x : Nat) : Int) := by omega
        have hd1 : decide (((movesP l b y : Nat) : Int) ≤ ((movesP l b x : Nat) : Int)) = true := decide_eq_true hle'
        have B23 := Lib.hid (b2.trans (b3.mono b2.size))
        go_wp2_with fail
        refine (moves_any _ _ (l.take 1) b x (HO.out w3 (BW1.out.trans (B23.out.mono BW1.out.size))) (by simp; omega) hb (may_take HM.out 1) ⟨by omega, by omega⟩).mono ?_
        rintro e w4 ⟨rfl, b4⟩
        rw [moves_not (k := x) (by simp [dueP]; omega) (may_take HM.out 1)]
        have B24 := Lib.hid (B23.out.trans (b4.mono B23.out.size))
        go_wp2_with fail
        refine (moves_any _ _ l b 12 (H1.out.keep B24.out) hl hb HM.out ⟨by omega, by omega⟩).mono ?_
        rintro e w5 ⟨rfl, b5⟩
        rw [moves_not (l := l) (k := 12) (by simp [dueP]; omega) HM.out]
        have B5 := BW1.out.trans ((B24.out.trans (b5.mono B24.out.size)).mono BW1.out.size)
        go_wp2_with fail
        go_ret
        exact ⟨rfl, B5⟩
      · have h1' : (l.length : Int) ≤ 1 := by omega
        clear h1
        go_enter Try.func7, Try.ntmps7
        go_wp2_with fail
        refine (awake_any _).mono ?_
        rintro e w1 ⟨rfl, b1⟩
        have BW1 := Lib.hid (BX.out.trans (b1.mono BX.out.size))
        have X1 := below_blk b1 hX.out (by simp)
        have cx := blk_cell X1 0
        have cy := blk_cell X1 1
        have H1 := Lib.hid (HX.out.keep b1)
        clear X1
        go_wp2_with fail
        refine (small_any 0 _ _ l b H1.out).mono ?_
        rintro e w2 ⟨rfl, rfl⟩
        rw [HS.out]
        go_wp2_with fail
        refine (moves_any _ _ l b y H1.out hl hb HM.out ⟨by omega, by omega⟩).mono ?_
        rintro e w2 ⟨rfl, b2⟩
        go_wp2_with fail
        refine (moves_any _ _ l b x (H1.out.keep b2) hl hb HM.out ⟨by omega, by omega⟩).mono ?_
        rintro e w3 ⟨rfl, b3⟩
        have hle := moves_less b x y (by omega) (by omega) (rest l + 1).toNat l (by have := rest_nonneg HM.out; omega) HM.out
        have hle' : ((movesP l b y : Nat) : Int) ≤ ((movesP l b x : Nat) : Int) := by omega
        have hd1 : decide (((movesP l b y : Nat) : Int) ≤ ((movesP l b x : Nat) : Int)) = true := decide_eq_true hle'
        have B23 := Lib.hid (b2.trans (b3.mono b2.size))
        go_wp2_with fail
        refine (moves_any _ _ l b x (H1.out.keep B23.out) hl hb HM.out ⟨by omega, by omega⟩).mono ?_
        rintro e w4 ⟨rfl, b4⟩
        rw [moves_not (l := l) (k := x) (by simp [dueP]; omega) HM.out]
        have B24 := Lib.hid (B23.out.trans (b4.mono B23.out.size))
        go_wp2_with fail
        refine (moves_any _ _ l b 12 (H1.out.keep B24.out) hl hb HM.out ⟨by omega, by omega⟩).mono ?_
        rintro e w5 ⟨rfl, b5⟩
        rw [moves_not (l := l) (k := 12) (by simp [dueP]; omega) HM.out]
        have B5 := BW1.out.trans ((B24.out.trans (b5.mono B24.out.size)).mono BW1.out.size)
        go_wp2_with fail
        go_ret
        exact ⟨rfl, B5⟩
    · subst hxy
      by_cases h1 : 1 < (l.length : Int)
      · have HO := HHO.out h1
        go_enter Try.func7, Try.ntmps7
        go_wp2_with fail
        refine (awake_any _).mono ?_
        rintro e w1 ⟨rfl, b1⟩
        have BW1 := Lib.hid (BX.out.trans (b1.mono BX.out.size))
        have X1 := below_blk b1 hX.out (by simp)
        have cx := blk_cell X1 0
        have cy := blk_cell X1 1
        have H1 := Lib.hid (HX.out.keep b1)
        clear X1
        go_wp2_with fail
        refine (small_any 0 _ _ l b H1.out).mono ?_
        rintro e w2 ⟨rfl, rfl⟩
        rw [HS.out]
        go_wp2_with fail
        refine (moves_any _ _ l b x H1.out hl hb HM.out ⟨by omega, by omega⟩).mono ?_
        rintro e w2 ⟨rfl, b2⟩
        go_wp2_with fail
        refine (moves_any _ _ l b x (H1.out.keep b2) hl hb HM.out ⟨by omega, by omega⟩).mono ?_
        rintro e w3 ⟨rfl, b3⟩
        have hle := moves_less b x x (by omega) (by omega) (rest l + 1).toNat l (by have := rest_nonneg HM.out; omega) HM.out
        have hle' : ((movesP l b x : Nat) : Int) ≤ ((movesP l b x : Nat) : Int) := by omega
        have hd1 : decide (((movesP l b x : Nat) : Int) ≤ ((movesP l b x : Nat) : Int)) = true := decide_eq_true hle'
        have B23 := Lib.hid (b2.trans (b3.mono b2.size))
        go_wp2_with fail
        refine (moves_any _ _ (l.take 1) b x (HO.out w3 (BW1.out.trans (B23.out.mono BW1.out.size))) (by simp; omega) hb (may_take HM.out 1) ⟨by omega, by omega⟩).mono ?_
        rintro e w4 ⟨rfl, b4⟩
        rw [moves_not (k := x) (by simp [dueP]; omega) (may_take HM.out 1)]
        have B24 := Lib.hid (B23.out.trans (b4.mono B23.out.size))
        go_wp2_with fail
        refine (moves_any _ _ l b 12 (H1.out.keep B24.out) hl hb HM.out ⟨by omega, by omega⟩).mono ?_
        rintro e w5 ⟨rfl, b5⟩
        rw [moves_not (l := l) (k := 12) (by simp [dueP]; omega) HM.out]
        have B5 := BW1.out.trans ((B24.out.trans (b5.mono B24.out.size)).mono BW1.out.size)
        go_wp2_with fail
        go_ret
        exact ⟨rfl, B5⟩
      · have h1' : (l.length : Int) ≤ 1 := by omega
        clear h1
        go_enter Try.func7, Try.ntmps7
        go_wp2_with fail
        refine (awake_any _).mono ?_
        rintro e w1 ⟨rfl, b1⟩
        have BW1 := Lib.hid (BX.out.trans (b1.mono BX.out.size))
        have X1 := below_blk b1 hX.out (by simp)
        have cx := blk_cell X1 0
        have cy := blk_cell X1 1
        have H1 := Lib.hid (HX.out.keep b1)
        clear X1
        go_wp2_with fail
        refine (small_any 0 _ _ l b H1.out).mono ?_
        rintro e w2 ⟨rfl, rfl⟩
        rw [HS.out]
        go_wp2_with fail
        refine (moves_any _ _ l b x H1.out hl hb HM.out ⟨by omega, by omega⟩).mono ?_
        rintro e w2 ⟨rfl, b2⟩
        go_wp2_with fail
        refine (moves_any _ _ l b x (H1.out.keep b2) hl hb HM.out ⟨by omega, by omega⟩).mono ?_
        rintro e w3 ⟨rfl, b3⟩
        have hle := moves_less b x x (by omega) (by omega) (rest l + 1).toNat l (by have := rest_nonneg HM.out; omega) HM.out
        have hle' : ((movesP l b x : Nat) : Int) ≤ ((movesP l b x : Nat) : Int) := by omega
        have hd1 : decide (((movesP l b x : Nat) : Int) ≤ ((movesP l b x : Nat) : Int)) = true := decide_eq_true hle'
        have B23 := Lib.hid (b2.trans (b3.mono b2.size))
        go_wp2_with fail
        refine (moves_any _ _ l b x (H1.out.keep B23.out) hl hb HM.out ⟨by omega, by omega⟩).mono ?_
        rintro e w4 ⟨rfl, b4⟩
        rw [moves_not (l := l) (k := x) (by simp [dueP]; omega) HM.out]
        have B24 := Lib.hid (B23.out.trans (b4.mono B23.out.size))
        go_wp2_with fail
        refine (moves_any _ _ l b 12 (H1.out.keep B24.out) hl hb HM.out ⟨by omega, by omega⟩).mono ?_
        rintro e w5 ⟨rfl, b5⟩
        rw [moves_not (l := l) (k := 12) (by simp [dueP]; omega) HM.out]
        have B5 := BW1.out.trans ((B24.out.trans (b5.mono B24.out.size)).mono BW1.out.size)
        go_wp2_with fail
        go_ret
        exact ⟨rfl, B5⟩
    · by_cases h1 : 1 < (l.length : Int)
      · have HO := HHO.out h1
        go_enter Try.func7, Try.ntmps7
        go_wp2_with fail
        refine (awake_any _).mono ?_
        rintro e w1 ⟨rfl, b1⟩
        have BW1 := Lib.hid (BX.out.trans (b1.mono BX.out.size))
        have X1 := below_blk b1 hX.out (by simp)
        have cx := blk_cell X1 0
        have cy := blk_cell X1 1
        have H1 := Lib.hid (HX.out.keep b1)
        clear X1
        go_wp2_with fail
        refine (small_any 0 _ _ l b H1.out).mono ?_
        rintro e w2 ⟨rfl, rfl⟩
        rw [HS.out]
        go_wp2_with fail
        refine (moves_any _ _ l b x H1.out hl hb HM.out ⟨by omega, by omega⟩).mono ?_
        rintro e w2 ⟨rfl, b2⟩
        go_wp2_with fail
        refine (moves_any _ _ l b y (H1.out.keep b2) hl hb HM.out ⟨by omega, by omega⟩).mono ?_
        rintro e w3 ⟨rfl, b3⟩
        have hle := moves_less b y x (by omega) (by omega) (rest l + 1).toNat l (by have := rest_nonneg HM.out; omega) HM.out
        have hle' : ((movesP l b x : Nat) : Int) ≤ ((movesP l b y : Nat) : Int) := by omega
        have hd1 : decide (((movesP l b x : Nat) : Int) ≤ ((movesP l b y : Nat) : Int)) = true := decide_eq_true hle'
        have B23 := Lib.hid (b2.trans (b3.mono b2.size))
        go_wp2_with fail
        refine (moves_any _ _ (l.take 1) b y (HO.out w3 (BW1.out.trans (B23.out.mono BW1.out.size))) (by simp; omega) hb (may_take HM.out 1) ⟨by omega, by omega⟩).mono ?_
        rintro e w4 ⟨rfl, b4⟩
        rw [moves_not (k := y) (by simp [dueP]; omega) (may_take HM.out 1)]
        have B24 := Lib.hid (B23.out.trans (b4.mono B23.out.size))
        go_wp2_with fail
        refine (moves_any _ _ l b 12 (H1.out.keep B24.out) hl hb HM.out ⟨by omega, by omega⟩).mono ?_
        rintro e w5 ⟨rfl, b5⟩
        rw [moves_not (l := l) (k := 12) (by simp [dueP]; omega) HM.out]
        have B5 := BW1.out.trans ((B24.out.trans (b5.mono B24.out.size)).mono BW1.out.size)
        go_wp2_with fail
        go_ret
        exact ⟨rfl, B5⟩
      · have h1' : (l.length : Int) ≤ 1 := by omega
        clear h1
        go_enter Try.func7, Try.ntmps7
        go_wp2_with fail
        refine (awake_any _).mono ?_
        rintro e w1 ⟨rfl, b1⟩
        have BW1 := Lib.hid (BX.out.trans (b1.mono BX.out.size))
        have X1 := below_blk b1 hX.out (by simp)
        have cx := blk_cell X1 0
        have cy := blk_cell X1 1
        have H1 := Lib.hid (HX.out.keep b1)
        clear X1
        go_wp2_with fail
        refine (small_any 0 _ _ l b H1.out).mono ?_
        rintro e w2 ⟨rfl, rfl⟩
        rw [HS.out]
        go_wp2_with fail
        refine (moves_any _ _ l b x H1.out hl hb HM.out ⟨by omega, by omega⟩).mono ?_
        rintro e w2 ⟨rfl, b2⟩
        go_wp2_with fail
        refine (moves_any _ _ l b y (H1.out.keep b2) hl hb HM.out ⟨by omega, by omega⟩).mono ?_
        rintro e w3 ⟨rfl, b3⟩
        have hle := moves_less b y x (by omega) (by omega) (rest l + 1).toNat l (by have := rest_nonneg HM.out; omega) HM.out
        have hle' : ((movesP l b x : Nat) : Int) ≤ ((movesP l b y : Nat) : Int) := by omega
        have hd1 : decide (((movesP l b x : Nat) : Int) ≤ ((movesP l b y : Nat) : Int)) = true := decide_eq_true hle'
        have B23 := Lib.hid (b2.trans (b3.mono b2.size))
        go_wp2_with fail
        refine (moves_any _ _ l b y (H1.out.keep B23.out) hl hb HM.out ⟨by omega, by omega⟩).mono ?_
        rintro e w4 ⟨rfl, b4⟩
        rw [moves_not (l := l) (k := y) (by simp [dueP]; omega) HM.out]
        have B24 := Lib.hid (B23.out.trans (b4.mono B23.out.size))
        go_wp2_with fail
        refine (moves_any _ _ l b 12 (H1.out.keep B24.out) hl hb HM.out ⟨by omega, by omega⟩).mono ?_
        rintro e w5 ⟨rfl, b5⟩
        rw [moves_not (l := l) (k := 12) (by simp [dueP]; omega) HM.out]
        have B5 := BW1.out.trans ((B24.out.trans (b5.mono B24.out.size)).mono BW1.out.size)
        go_wp2_with fail
        go_ret
        exact ⟨rfl, B5⟩
end Go.Proofs.Ytejmggfofcfndaa
