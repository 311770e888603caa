/- awake, a set of lists that is nil, and a new one (almerylaw07). -/
import Derived.Test.YthjbggdcninckaaRRing6
namespace Go.Proofs.Ythjbggdcninckaa
open Go.RowKit
set_option linter.unusedVariables false

theorem PU.det {m n : Nat} {L : Nat → List Nat} {i x er : Int} {L' : Nat → List Nat} (h : PU m n L i x er L') (j y : Nat) (e1 : i = j) (e2 : x = y) (hj : j < m) (hy : y < n) (hin : inB m L y = false) : er = 0 ∧ L' = updL L j (y :: L j) := by
  cases h with
  | arg g => exact absurd g (by omega)
  | there j' y' a b c d e =>
    obtain rfl : y' = y := by omega
    rw [hin] at e; cases e
  | ok j' y' a b c d e =>
    obtain rfl : y' = y := by omega
    obtain rfl : j' = j := by omega
    exact ⟨rfl, rfl⟩
theorem PU.det2 {m n : Nat} {L : Nat → List Nat} {i x er : Int} {L' : Nat → List Nat} (h : PU m n L i x er L') (j y : Nat) (e1 : i = j) (e2 : x = y) (hj : j < m) (hy : y < n) (hin : inB m L y = true) : er = 10 ∧ L' = L := by
  cases h with
  | arg g => exact absurd g (by omega)
  | there j' y' a b c d e => exact ⟨rfl, rfl⟩
  | ok j' y' a b c d e =>
    obtain rfl : y' = y := by omega
    rw [hin] at e; cases e
theorem push_free (w : World) (g gl gn m n : Nat) (L : Nat → List Nat) (h : TR w g gl gn m n L) (i x : Int) (j y : Nat) (e1 : i = j) (e2 : x = y) (hj : j < m) (hy : y < n) (hin : inB m L y = false) : Calls Try.prog 13 #[ptr g, .int .i64 i, .int .i64 x] w fun e w' => e = .returned (.int .i64 0) ∧ TR w' g gl gn m n (updL L j (y :: L j)) ∧ Keep (fun k => k = gl ∨ k = gn) w w' := by
  refine (tr_push w g gl gn m n L h i x).mono ?_
  rintro e w' ⟨er, L', rfl, p, t, k⟩
  obtain ⟨rfl, rfl⟩ := p.det j y e1 e2 hj hy hin
  exact ⟨rfl, t, k⟩
theorem push_in (w : World) (g gl gn m n : Nat) (L : Nat → List Nat) (h : TR w g gl gn m n L) (i x : Int) (j y : Nat) (e1 : i = j) (e2 : x = y) (hj : j < m) (hy : y < n) (hin : inB m L y = true) : Calls Try.prog 13 #[ptr g, .int .i64 i, .int .i64 x] w fun e w' => e = .returned (.int .i64 10) ∧ TR w' g gl gn m n L ∧ Keep (fun k => k = gl ∨ k = gn) w w' := by
  refine (tr_push w g gl gn m n L h i x).mono ?_
  rintro e w' ⟨er, L', rfl, p, t, k⟩
  obtain ⟨rfl, rfl⟩ := p.det2 j y e1 e2 hj hy hin
  exact ⟨rfl, t, k⟩
theorem push_far (w : World) (g gl gn m n : Nat) (L : Nat → List Nat) (h : TR w g gl gn m n L) (i x : Int) (hf : (i < 0 ∨ (m : Int) ≤ i) ∨ (x < 0 ∨ (n : Int) ≤ x)) : Calls Try.prog 13 #[ptr g, .int .i64 i, .int .i64 x] w fun e w' => e = .returned (.int .i64 1) ∧ TR w' g gl gn m n L ∧ Keep (fun k => k = gl ∨ k = gn) w w' := by
  refine (tr_push w g gl gn m n L h i x).mono ?_
  rintro e w' ⟨er, L', rfl, p, t, k⟩
  cases p with
  | arg _ => exact ⟨rfl, t, k⟩
  | there j y a b c d => exact absurd hf (by omega)
  | ok j y a b c d => exact absurd hf (by omega)
theorem k7 {gl gn : Nat} {w0 w w' : World} (b : Below w0.heap.size w0 w) (k : Keep (fun k => k = gl ∨ k = gn) w w') (h1 : w0.heap.size ≤ gl) (h2 : w0.heap.size ≤ gn) : Below w0.heap.size w0 w' := below_keep b k b.size (fun i hi => by omega)
def aw0 : Nat → List Nat := fun _ => []
def aw1 : Nat → List Nat := updL aw0 1 [3]
def aw2 : Nat → List Nat := updL aw1 1 [5, 3]
theorem aw_ot5 : OT 2 8 aw2 5 1 3 := .some 5 1 [] [3] rfl (by omega) (by omega) rfl (by decide) (fun j hj hne => by
  obtain rfl : j = 0 := by omega
  decide)
theorem aw_ot3 : OT 2 8 aw2 3 1 (-1) := .some 3 1 [5] [] rfl (by omega) (by omega) rfl (by decide) (fun j hj hne => by
  obtain rfl : j = 0 := by omega
  decide)
set_option maxHeartbeats 2000000 in
theorem awake_ok (w : World) : Calls Try.prog 8 #[] w fun e w' => e = .returned (.bool true) ∧ Below w.heap.size w w' := by
  go_enter Try.func8, Try.ntmps8
  go_wp2_with fail
  refine (tr_new w 2 8 (by omega) (by omega) (by omega) (by omega)).mono ?_
  rintro e w1 ⟨g, gl, gn, rfl, hg, hgl, hgn, t1, b1⟩
  have T1 := Lib.hid (show TR w1 g gl gn 2 8 aw0 from t1)
  have B1 := Lib.hid b1
  clear t1 b1
  go_wp2_with fail
  refine (push_free w1 g gl gn 2 8 aw0 T1.out 1 3 1 3 rfl rfl (by omega) (by omega) rfl).mono ?_
  rintro e w2 ⟨rfl, t, k⟩
  have B2 := Lib.hid (k7 B1.out k hgl hgn)
  have T2 := Lib.hid (show TR w2 g gl gn 2 8 aw1 from t)
  clear t k
  go_wp2_with fail
  refine (push_free w2 g gl gn 2 8 aw1 T2.out 1 5 1 5 rfl rfl (by omega) (by omega) rfl).mono ?_
  rintro e w3 ⟨rfl, t, k⟩
  have B3 := Lib.hid (k7 B2.out k hgl hgn)
  have T3 := Lib.hid (show TR w3 g gl gn 2 8 aw2 from t)
  clear t k
  go_wp2_with fail
  refine (push_in w3 g gl gn 2 8 aw2 T3.out 0 5 0 5 rfl rfl (by omega) (by omega) rfl).mono ?_
  rintro e w4 ⟨rfl, t, k⟩
  have B4 := Lib.hid (k7 B3.out k hgl hgn)
  have T4 := Lib.hid t
  clear t k
  go_wp2_with fail
  refine (new_bad w4 0 1 (by omega)).mono ?_
  rintro e w5 ⟨rfl, rfl⟩
  go_wp2_with fail
  refine (tr_first w4 g gl gn 2 8 aw2 T4.out 1).mono ?_
  rw [show firstT 2 aw2 1 = 5 from rfl]
  rintro e w5 ⟨rfl, rfl⟩
  go_wp2_with fail
  refine (tr_last w4 g gl gn 2 8 aw2 T4.out 1).mono ?_
  rw [show lastT 2 aw2 1 = 3 from rfl]
  rintro e w5 ⟨rfl, rfl⟩
  go_wp2_with fail
  refine (tr_next w4 g gl gn 2 8 aw2 T4.out 5 1 3 aw_ot5).mono ?_
  rintro e w5 ⟨rfl, rfl⟩
  go_wp2_with fail
  refine (tr_of w4 g gl gn 2 8 aw2 T4.out 3 1 (-1) aw_ot3).mono ?_
  rintro e w5 ⟨rfl, rfl⟩
  go_wp2_with fail
  refine (tr_len w4 g gl gn 2 8 aw2 T4.out 1).mono ?_
  rw [show lenT 2 aw2 1 = 2 from rfl]
  rintro e w5 ⟨rfl, rfl⟩
  go_wp2_with fail
  refine (tr_first w4 g gl gn 2 8 aw2 T4.out 0).mono ?_
  rw [show firstT 2 aw2 0 = -1 from rfl]
  rintro e w5 ⟨rfl, rfl⟩
  go_wp2_with fail
  go_ret
  exact ⟨rfl, B4.out⟩
theorem nobody_any (w : World) (i x : Int) : Calls Try.prog 7 #[.int .i64 i, .int .i64 x] w fun e w' => e = .returned (.bool true) ∧ Below w.heap.size w w' := by
  go_enter Try.func7, Try.ntmps7
  go_wp2_with fail
  refine (awake_ok w).mono ?_
  rintro e w1 ⟨rfl, b1⟩
  have B1 := Lib.hid b1
  clear b1
  go_wp2_with fail
  refine (push_nil w1 i x).mono ?_
  rintro e w2 ⟨rfl, rfl⟩
  go_wp2_with fail
  refine (drop_nil w1 x).mono ?_
  rintro e w2 ⟨rfl, rfl⟩
  go_wp2_with fail
  refine (first_nil w1 i).mono ?_
  rintro e w2 ⟨rfl, rfl⟩
  go_wp2_with fail
  refine (last_nil w1 i).mono ?_
  rintro e w2 ⟨rfl, rfl⟩
  go_wp2_with fail
  refine (next_nil w1 x).mono ?_
  rintro e w2 ⟨rfl, rfl⟩
  go_wp2_with fail
  refine (of_nil w1 x).mono ?_
  rintro e w2 ⟨rfl, rfl⟩
  go_wp2_with fail
  refine (len_nil w1 i).mono ?_
  rintro e w2 ⟨rfl, rfl⟩
  go_wp2_with fail
  go_ret
  exact ⟨rfl, B1.out⟩
set_option maxHeartbeats 2000000 in
theorem newLaw_any (w : World) (n m : Int) : Calls Try.prog 3 #[.int .i64 n, .int .i64 m] w fun e w' => e = .returned (.bool true) ∧ Below w.heap.size w w' := by
  by_cases h : n < 1 ∨ 4096 < n ∨ m < 1 ∨ 64 < m
  · have H := Lib.hid h
    clear h
    go_enter Try.func3, Try.ntmps3
    go_wp2_with fail
    refine (awake_ok w).mono ?_
    rintro e w1 ⟨rfl, b1⟩
    have B1 := Lib.hid b1
    clear b1
    go_wp2_with fail
    refine (new_bad w1 n m H.out).mono ?_
    rintro e w2 ⟨rfl, rfl⟩
    go_wp2_with fail
    refine (rnew_bad w1 n m H.out).mono ?_
    rintro e w2 ⟨rfl, b2⟩
    have B2 := Lib.hid ((B1.out.trans (b2.mono B1.out.size)).alloc (Nat.le_trans B1.out.size b2.size) (.cells #[.slice none 0 0, .int .i64 0] 29))
    clear b2
    go_wp2_with fail
    go_ret
    exact ⟨rfl, B2.out⟩
  · obtain ⟨n, rfl⟩ : ∃ k : Nat, n = k := ⟨n.toNat, by omega⟩
    obtain ⟨m, rfl⟩ : ∃ k : Nat, m = k := ⟨m.toNat, by omega⟩
    have hm : (1 ≤ n ∧ n ≤ 4096) ∧ (1 ≤ m ∧ m ≤ 64) := by omega
    have H := Lib.hid hm
    clear h
    obtain ⟨p, hp⟩ : ∃ p, p + 1 = m := ⟨m - 1, by omega⟩
    obtain ⟨q, hq⟩ : ∃ q, q + 1 = n := ⟨n - 1, by omega⟩
    have wm : IntKind.i64.wrap ((m : Int) - 1) = p := by rw [show (m : Int) - 1 = p from by omega]; exact IntWalk.i64_in _ (by omega)
    have wn : IntKind.i64.wrap ((n : Int) - 1) = q := by rw [show (n : Int) - 1 = q from by omega]; exact IntWalk.i64_in _ (by omega)
    have hpm : p < m := by omega
    have hqn : q < n := by omega
    clear hp hq
    have hno : inB m (fun _ => []) q = false := inB_no.2 (fun _ _ h => by cases h)
    go_enter Try.func3, Try.ntmps3
    go_wp2_with fail
    refine (awake_ok w).mono ?_
    rintro e w1 ⟨rfl, b1⟩
    have B1 := Lib.hid b1
    clear b1
    go_wp2_with fail
    refine (tr_new w1 m n H.out.1.1 H.out.1.2 H.out.2.1 H.out.2.2).mono ?_
    rintro e w2 ⟨g, gl, gn, rfl, hg, hgl, hgn, t, b⟩
    have T := Lib.hid t
    have hz1 := B1.out.size
    have B2 := Lib.hid (B1.out.trans (b.mono B1.out.size))
    clear t b
    go_wp2_with fail
    refine (rnew_any w2 m n H.out.1.1 H.out.1.2 H.out.2.1 H.out.2.2).mono ?_
    rintro e w3 ⟨v, rfl, r, b3⟩
    obtain ⟨a1, c1, rfl, k1⟩ := r.val
    have B3 := Lib.hid ((B2.out.trans (b3.mono B2.out.size)).alloc (Nat.le_trans B2.out.size b3.size) (.cells #[.slice a1 m c1, .int .i64 n] 29))
    have T3 := Lib.hid ((T.out.below b3).below ((Below.refl w3.heap.size w3).alloc (Nat.le_refl _) (.cells #[.slice a1 m c1, .int .i64 n] 29)))
    clear k1 r b3 T
    go_wp2_with fail
    refine (tr_len _ g gl gn m n _ T3.out (p : Int)).mono ?_
    rw [show lenT m (fun _ => []) (p : Int) = 0 from by unfold lenT; split <;> rfl]
    rintro e w4 ⟨rfl, rfl⟩
    go_wp2_with fail
    refine (tr_of _ g gl gn m n _ T3.out (q : Int) (-1) (-1) (.none q rfl hqn hno)).mono ?_
    rintro e w4 ⟨rfl, rfl⟩
    go_wp2_with fail
    refine (push_free _ g gl gn m n _ T3.out (p : Int) (q : Int) p q rfl rfl hpm hqn hno).mono ?_
    rintro e w4 ⟨rfl, t, k⟩
    have T4 := Lib.hid t
    have B4 := Lib.hid (k7 B3.out k (by omega) (by omega))
    clear t k
    go_wp2_with fail
    refine (push_far _ g gl gn m n _ T4.out (m : Int) 0 (by omega)).mono ?_
    rintro e w5 ⟨rfl, t, k⟩
    have T5 := Lib.hid t
    have B5 := Lib.hid (k7 B4.out k (by omega) (by omega))
    clear t k
    go_wp2_with fail
    refine (push_far _ g gl gn m n _ T5.out 0 (n : Int) (by omega)).mono ?_
    rintro e w6 ⟨rfl, t, k⟩
    have B6 := Lib.hid (k7 B5.out k (by omega) (by omega))
    clear t k
    go_wp2_with fail
    go_ret
    exact ⟨rfl, B6.out⟩
end Go.Proofs.Ythjbggdcninckaa
