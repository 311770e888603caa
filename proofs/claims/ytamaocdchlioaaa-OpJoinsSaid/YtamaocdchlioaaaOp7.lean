/- What bytes come to: an op at their head, and ops one behind the other. No program in sight. -/
import Derived.Test.YtamaocdchlioaaaOp6
namespace Go.Proofs.Ytamaocdchlioaaa
open Go.RowKit
set_option linter.unusedVariables false

/-- k bytes as a number, the lowest first -/
def word (ys : List Int) (o : Nat) : Nat → Int
  | 0 => 0
  | k + 1 => word ys o k + ys.getD (o + k) 0 * 256 ^ k
def sgn (n : Int) : Int := IntKind.i64.wrap n
theorem sgn_eq (n : Int) : sgn n = if n % 18446744073709551616 < 9223372036854775808 then n % 18446744073709551616 else n % 18446744073709551616 - 18446744073709551616 := by
  unfold sgn
  simp only [IntKind.wrap, IntKind.bits, IntKind.signed]
  simp
  split <;> split <;> omega
theorem sgn_uns (a : Int) (h1 : -9223372036854775808 ≤ a) (h2 : a ≤ 9223372036854775807) : sgn (uns a) = a := by
  rw [sgn_eq]; unfold uns; split <;> omega
theorem uns_sgn (x : Int) (h1 : 0 ≤ x) (h2 : x < 18446744073709551616) : uns (sgn x) = x := by
  rw [sgn_eq]; unfold uns; split <;> omega
theorem sgn_bounds (x : Int) : -9223372036854775808 ≤ sgn x ∧ sgn x ≤ 9223372036854775807 := by
  rw [sgn_eq]; split <;> omega
def Bytes (ys : List Int) : Prop := ∀ i, 0 ≤ ys.getD i 0 ∧ ys.getD i 0 ≤ 255
theorem word8 (ys : List Int) (o : Nat) : word ys o 8 = ys.getD o 0 + ys.getD (o + 1) 0 * 256 + ys.getD (o + 2) 0 * 65536 + ys.getD (o + 3) 0 * 16777216 + ys.getD (o + 4) 0 * 4294967296 + ys.getD (o + 5) 0 * 1099511627776 + ys.getD (o + 6) 0 * 281474976710656 + ys.getD (o + 7) 0 * 72057594037927936 := by
  simp only [word, Nat.add_zero]
  omega
theorem word8_of (ys : List Int) (o : Nat) (N : Int) (h0 : 0 ≤ N) (h1 : N < 18446744073709551616) (h : ∀ i, i < 8 → ys.getD (o + i) 0 = N / 256 ^ i % 256) : word ys o 8 = N := by
  rw [word8]
  have e0 := h 0 (by omega)
  have e1 := h 1 (by omega)
  have e2 := h 2 (by omega)
  have e3 := h 3 (by omega)
  have e4 := h 4 (by omega)
  have e5 := h 5 (by omega)
  have e6 := h 6 (by omega)
  have e7 := h 7 (by omega)
  clear h
  rw [← num_next N 6, ← num_next N 5, ← num_next N 4, ← num_next N 3, ← num_next N 2, ← num_next N 1, ← num_next N 0] at e7
  rw [← num_next N 5, ← num_next N 4, ← num_next N 3, ← num_next N 2, ← num_next N 1, ← num_next N 0] at e6
  rw [← num_next N 4, ← num_next N 3, ← num_next N 2, ← num_next N 1, ← num_next N 0] at e5
  rw [← num_next N 3, ← num_next N 2, ← num_next N 1, ← num_next N 0] at e4
  rw [← num_next N 2, ← num_next N 1, ← num_next N 0] at e3
  rw [← num_next N 1, ← num_next N 0] at e2
  rw [← num_next N 0] at e1
  rw [Int.pow_zero, Int.ediv_one] at e0 e1 e2 e3 e4 e5 e6 e7
  rw [Nat.add_zero] at e0
  rw [e0, e1, e2, e3, e4, e5, e6, e7]
  omega
theorem num8_of (ys : List Int) (o : Nat) (hb : Bytes ys) : 0 ≤ word ys o 8 ∧ word ys o 8 < 18446744073709551616 ∧ numTo (word ys o 8) 8 = [ys.getD o 0, ys.getD (o + 1) 0, ys.getD (o + 2) 0, ys.getD (o + 3) 0, ys.getD (o + 4) 0, ys.getD (o + 5) 0, ys.getD (o + 6) 0, ys.getD (o + 7) 0] := by
  rw [word8]
  have b0 := hb o
  have b1 := hb (o + 1)
  have b2 := hb (o + 2)
  have b3 := hb (o + 3)
  have b4 := hb (o + 4)
  have b5 := hb (o + 5)
  have b6 := hb (o + 6)
  have b7 := hb (o + 7)
  generalize ys.getD o 0 = y0 at *
  generalize ys.getD (o + 1) 0 = y1 at *
  generalize ys.getD (o + 2) 0 = y2 at *
  generalize ys.getD (o + 3) 0 = y3 at *
  generalize ys.getD (o + 4) 0 = y4 at *
  generalize ys.getD (o + 5) 0 = y5 at *
  generalize ys.getD (o + 6) 0 = y6 at *
  generalize ys.getD (o + 7) 0 = y7 at *
  refine ⟨by omega, by omega, ?_⟩
  simp only [numTo, List.nil_append, List.cons_append, List.cons.injEq, and_true]
  simp only [← num_next, Int.pow_zero, Int.ediv_one]
  refine ⟨?_, ?_, ?_, ?_, ?_, ?_, ?_, ?_⟩ <;> omega
def nAt (ys : List Int) : Nat := (ys.getD 25 0 + 256 * ys.getD 26 0).toNat
def sizeAt (ys : List Int) : Nat := 27 + nAt ys
def opAt (ys : List Int) : POp := ⟨ys.getD 0 0, sgn (word ys 1 8), sgn (word ys 9 8), sgn (word ys 17 8), (ys.drop 27).take (nAt ys)⟩
/-- is there an op at their head? -/
def headB (ys : List Int) : Bool := decide (sizeAt ys ≤ ys.length) && mayP (opAt ys)
theorem headB_iff {ys : List Int} : headB ys = true ↔ sizeAt ys ≤ ys.length ∧ mayP (opAt ys) = true := by
  simp [headB]
theorem opAt_len {ys : List Int} (h : sizeAt ys ≤ ys.length) : (opAt ys).d.length = nAt ys := by
  unfold sizeAt at h
  simp only [opAt, List.length_take, List.length_drop]
  omega
structure POk (p : POp) : Prop where
  a : -9223372036854775808 ≤ p.a ∧ p.a ≤ 9223372036854775807
  b : -9223372036854775808 ≤ p.b ∧ p.b ≤ 9223372036854775807
  c : -9223372036854775808 ≤ p.c ∧ p.c ≤ 9223372036854775807
  d : Bytes p.d
theorem cons_of {ys : List Int} {n : Nat} (h : n + 1 ≤ ys.length) : ∃ y r, ys = y :: r ∧ n ≤ r.length := by
  cases ys with
  | nil => simp at h
  | cons y r => exact ⟨y, r, rfl, by simpa using h⟩
theorem bytes_take {ys : List Int} (h : Bytes ys) (n : Nat) : Bytes (ys.take n) := by
  intro i
  by_cases hi : i < n
  · have : (ys.take n).getD i 0 = ys.getD i 0 := by simp [List.getD, hi]
    rw [this]; exact h i
  · have : (ys.take n).getD i 0 = 0 := by simp [List.getD, List.getElem?_take, hi]
    rw [this]; omega
theorem bytes_drop {ys : List Int} (h : Bytes ys) (n : Nat) : Bytes (ys.drop n) := by
  intro i
  have : (ys.drop n).getD i 0 = ys.getD (n + i) 0 := by simp [List.getD]
  rw [this]; exact h _
theorem bytes_nil : Bytes [] := fun i => by simp
theorem getD_app_lt {a b : List Int} {i : Nat} (h : i < a.length) : (a ++ b).getD i 0 = a.getD i 0 := by
  simp [List.getD, List.getElem?_append_left h]
theorem getD_app_ge {a b : List Int} {i : Nat} (h : a.length ≤ i) : (a ++ b).getD i 0 = b.getD (i - a.length) 0 := by
  simp [List.getD, List.getElem?_append_right h]
theorem bytes_app {a b : List Int} (ha : Bytes a) (hb : Bytes b) : Bytes (a ++ b) := by
  intro i
  by_cases hi : i < a.length
  · rw [getD_app_lt hi]; exact ha i
  · rw [getD_app_ge (by omega)]; exact hb _
theorem bytes_one {x : Int} (h : 0 ≤ x ∧ x ≤ 255) : Bytes [x] := by
  intro i
  cases i with
  | zero => simpa using h
  | succ i => simp
theorem bytes_numTo (N : Int) : ∀ k, Bytes (numTo N k)
  | 0 => bytes_nil
  | k + 1 => bytes_app (bytes_numTo N k) (bytes_one (by omega))
theorem bytes_enc {p : POp} (ok : Bytes p.d) : Bytes (encO p) := by
  unfold encO enc numB
  refine bytes_app (bytes_app (bytes_app (bytes_app (bytes_app (bytes_one (by omega)) (bytes_numTo _ _)) (bytes_numTo _ _)) (bytes_numTo _ _)) ?_) ok
  exact bytes_app (a := [_]) (bytes_one (by omega)) (bytes_one (by omega))
def head27 (p : POp) : List Int := [p.k % 256] ++ numB p.a ++ numB p.b ++ numB p.c ++ [(p.d.length : Int) % 256, (p.d.length : Int) / 256 % 256]
theorem head27_len (p : POp) : (head27 p).length = 27 := by
  simp only [head27, List.length_append, numB_len, List.length_cons, List.length_nil]
theorem encO_head (p : POp) : encO p = head27 p ++ p.d := rfl
theorem head27_0 (p : POp) : (head27 p).getD 0 0 = p.k % 256 := rfl
theorem head27_a (p : POp) : ∀ i, i < 8 → (head27 p).getD (1 + i) 0 = uns p.a / 256 ^ i % 256
  | 0, _ => rfl | 1, _ => rfl | 2, _ => rfl | 3, _ => rfl | 4, _ => rfl | 5, _ => rfl | 6, _ => rfl | 7, _ => rfl
  | n + 8, h => by omega
theorem head27_b (p : POp) : ∀ i, i < 8 → (head27 p).getD (9 + i) 0 = uns p.b / 256 ^ i % 256
  | 0, _ => rfl | 1, _ => rfl | 2, _ => rfl | 3, _ => rfl | 4, _ => rfl | 5, _ => rfl | 6, _ => rfl | 7, _ => rfl
  | n + 8, h => by omega
theorem head27_c (p : POp) : ∀ i, i < 8 → (head27 p).getD (17 + i) 0 = uns p.c / 256 ^ i % 256
  | 0, _ => rfl | 1, _ => rfl | 2, _ => rfl | 3, _ => rfl | 4, _ => rfl | 5, _ => rfl | 6, _ => rfl | 7, _ => rfl
  | n + 8, h => by omega
theorem head27_m (p : POp) : (head27 p).getD 25 0 = (p.d.length : Int) % 256 := rfl
theorem head27_n (p : POp) : (head27 p).getD 26 0 = (p.d.length : Int) / 256 % 256 := rfl
theorem uns_bounds (n : Int) : 0 ≤ uns n ∧ uns n < 18446744073709551616 := by unfold uns; omega
theorem mayP_iff (p : POp) : mayP p = true ↔ 1 ≤ p.k ∧ p.k ≤ 7 ∧ p.d.length ≤ 65535 ∧ (p.d.length = 0 ∨ p.k = 4) := by
  simp [mayP, mayK]
theorem opAt_enc (p : POp) (ok : POk p) (hm : mayP p = true) (zs : List Int) : opAt (encO p ++ zs) = p ∧ sizeAt (encO p ++ zs) = (encO p).length := by
  have hmm := (mayP_iff p).1 hm
  have hg : ∀ i, i < 27 → (encO p ++ zs).getD i 0 = (head27 p).getD i 0 := fun i hi => by
    rw [encO_head, List.append_assoc, getD_app_lt (by rw [head27_len]; exact hi)]
  have hn : nAt (encO p ++ zs) = p.d.length := by
    unfold nAt
    rw [hg 25 (by omega), hg 26 (by omega), head27_m, head27_n]
    omega
  have ha := uns_bounds p.a
  have hb := uns_bounds p.b
  have hc := uns_bounds p.c
  refine ⟨?_, by unfold sizeAt; rw [hn, encO_len]⟩
  have e0 : (encO p ++ zs).getD 0 0 = p.k := by rw [hg 0 (by omega), head27_0]; omega
  have e1 : word (encO p ++ zs) 1 8 = uns p.a := word8_of _ _ _ ha.1 ha.2 (fun i hi => by rw [hg _ (by omega), head27_a p i hi])
  have e2 : word (encO p ++ zs) 9 8 = uns p.b := word8_of _ _ _ hb.1 hb.2 (fun i hi => by rw [hg _ (by omega), head27_b p i hi])
  have e3 : word (encO p ++ zs) 17 8 = uns p.c := word8_of _ _ _ hc.1 hc.2 (fun i hi => by rw [hg _ (by omega), head27_c p i hi])
  have e4 : ((encO p ++ zs).drop 27).take (nAt (encO p ++ zs)) = p.d := by
    rw [hn, encO_head, List.append_assoc, List.drop_left' (head27_len p), List.take_left' rfl]
  unfold opAt
  rw [e0, e1, e2, e3, e4, sgn_uns _ ok.a.1 ok.a.2, sgn_uns _ ok.b.1 ok.b.2, sgn_uns _ ok.c.1 ok.c.2]
theorem head_enc (p : POp) (ok : POk p) (hm : mayP p = true) (zs : List Int) : headB (encO p ++ zs) = true := by
  obtain ⟨h1, h2⟩ := opAt_enc p ok hm zs
  rw [headB_iff, h1, h2]
  exact ⟨by rw [List.length_append]; omega, hm⟩
theorem opAt_ok {ys : List Int} (hb : Bytes ys) : POk (opAt ys) :=
  ⟨sgn_bounds _, sgn_bounds _, sgn_bounds _, bytes_take (bytes_drop hb _) _⟩
theorem nAt_eq {ys : List Int} (hb : Bytes ys) : (nAt ys : Int) = ys.getD 25 0 + 256 * ys.getD 26 0 := by
  have a := hb 25
  have b := hb 26
  unfold nAt
  omega
theorem drop_cons {ys : List Int} {n : Nat} (h : n < ys.length) : ys.drop n = ys.getD n 0 :: ys.drop (n + 1) := by
  rw [List.drop_eq_getElem_cons h]
  simp [List.getD, h]
theorem split27 {ys : List Int} (h : 27 ≤ ys.length) : ys = [ys.getD 0 0] ++ [ys.getD 1 0, ys.getD (1 + 1) 0, ys.getD (1 + 2) 0, ys.getD (1 + 3) 0, ys.getD (1 + 4) 0, ys.getD (1 + 5) 0, ys.getD (1 + 6) 0, ys.getD (1 + 7) 0] ++ [ys.getD 9 0, ys.getD (9 + 1) 0, ys.getD (9 + 2) 0, ys.getD (9 + 3) 0, ys.getD (9 + 4) 0, ys.getD (9 + 5) 0, ys.getD (9 + 6) 0, ys.getD (9 + 7) 0] ++ [ys.getD 17 0, ys.getD (17 + 1) 0, ys.getD (17 + 2) 0, ys.getD (17 + 3) 0, ys.getD (17 + 4) 0, ys.getD (17 + 5) 0, ys.getD (17 + 6) 0, ys.getD (17 + 7) 0] ++ [ys.getD 25 0, ys.getD 26 0] ++ ys.drop 27 := by
  have e : ys = ys.drop 0 := rfl
  have h1 : ys.drop 0 = [ys.getD 0 0] ++ [ys.getD 1 0, ys.getD (1 + 1) 0, ys.getD (1 + 2) 0, ys.getD (1 + 3) 0, ys.getD (1 + 4) 0, ys.getD (1 + 5) 0, ys.getD (1 + 6) 0, ys.getD (1 + 7) 0] ++ [ys.getD 9 0, ys.getD (9 + 1) 0, ys.getD (9 + 2) 0, ys.getD (9 + 3) 0, ys.getD (9 + 4) 0, ys.getD (9 + 5) 0, ys.getD (9 + 6) 0, ys.getD (9 + 7) 0] ++ [ys.getD 17 0, ys.getD (17 + 1) 0, ys.getD (17 + 2) 0, ys.getD (17 + 3) 0, ys.getD (17 + 4) 0, ys.getD (17 + 5) 0, ys.getD (17 + 6) 0, ys.getD (17 + 7) 0] ++ [ys.getD 25 0, ys.getD 26 0] ++ ys.drop 27 := by
    rw [drop_cons (n := 0) (by omega), drop_cons (n := 1) (by omega), drop_cons (n := 2) (by omega), drop_cons (n := 3) (by omega), drop_cons (n := 4) (by omega), drop_cons (n := 5) (by omega), drop_cons (n := 6) (by omega), drop_cons (n := 7) (by omega), drop_cons (n := 8) (by omega), drop_cons (n := 9) (by omega), drop_cons (n := 10) (by omega), drop_cons (n := 11) (by omega), drop_cons (n := 12) (by omega), drop_cons (n := 13) (by omega), drop_cons (n := 14) (by omega), drop_cons (n := 15) (by omega), drop_cons (n := 16) (by omega), drop_cons (n := 17) (by omega), drop_cons (n := 18) (by omega), drop_cons (n := 19) (by omega), drop_cons (n := 20) (by omega), drop_cons (n := 21) (by omega), drop_cons (n := 22) (by omega), drop_cons (n := 23) (by omega), drop_cons (n := 24) (by omega), drop_cons (n := 25) (by omega), drop_cons (n := 26) (by omega)]
    rfl
  exact e.trans h1
theorem enc_opAt {ys : List Int} (hb : Bytes ys) (h : headB ys = true) : encO (opAt ys) = ys.take (sizeAt ys) := by
  obtain ⟨h1, h2⟩ := headB_iff.1 h
  have hl := opAt_len h1
  have hn := nAt_eq hb
  have hmm := (mayP_iff _).1 h2
  have h27 : 27 ≤ ys.length := by unfold sizeAt at h1; omega
  have a25 := hb 25
  have a26 := hb 26
  have na := num8_of ys 1 hb
  have nb := num8_of ys 9 hb
  have nc := num8_of ys 17 hb
  have e2 : ys.take (sizeAt ys) = [ys.getD 0 0] ++ numB (opAt ys).a ++ numB (opAt ys).b ++ numB (opAt ys).c ++ [ys.getD 25 0, ys.getD 26 0] ++ (opAt ys).d := by
    have ea : numB (opAt ys).a = numTo (word ys 1 8) 8 := by unfold numB opAt; rw [uns_sgn _ na.1 na.2.1]
    have eb : numB (opAt ys).b = numTo (word ys 9 8) 8 := by unfold numB opAt; rw [uns_sgn _ nb.1 nb.2.1]
    have ec : numB (opAt ys).c = numTo (word ys 17 8) 8 := by unfold numB opAt; rw [uns_sgn _ nc.1 nc.2.1]
    rw [ea, eb, ec, na.2.2, nb.2.2, nc.2.2]
    have hs := split27 h27
    have ht : ys.take (sizeAt ys) = ys.take 27 ++ (ys.drop 27).take (nAt ys) := by
      unfold sizeAt; rw [List.take_add]
    have h27t : ys.take 27 = [ys.getD 0 0] ++ [ys.getD 1 0, ys.getD (1 + 1) 0, ys.getD (1 + 2) 0, ys.getD (1 + 3) 0, ys.getD (1 + 4) 0, ys.getD (1 + 5) 0, ys.getD (1 + 6) 0, ys.getD (1 + 7) 0] ++ [ys.getD 9 0, ys.getD (9 + 1) 0, ys.getD (9 + 2) 0, ys.getD (9 + 3) 0, ys.getD (9 + 4) 0, ys.getD (9 + 5) 0, ys.getD (9 + 6) 0, ys.getD (9 + 7) 0] ++ [ys.getD 17 0, ys.getD (17 + 1) 0, ys.getD (17 + 2) 0, ys.getD (17 + 3) 0, ys.getD (17 + 4) 0, ys.getD (17 + 5) 0, ys.getD (17 + 6) 0, ys.getD (17 + 7) 0] ++ [ys.getD 25 0, ys.getD 26 0] := by
      have hs2 := congrArg (List.take 27) hs
      rw [List.take_left' (by simp)] at hs2
      exact hs2
    rw [ht, h27t]
    rfl
  rw [e2]
  unfold encO enc
  have k0 : (opAt ys).k = ys.getD 0 0 := rfl
  have e25 : ((opAt ys).d.length : Int) % 256 = ys.getD 25 0 := by rw [hl]; omega
  have e26 : ((opAt ys).d.length : Int) / 256 % 256 = ys.getD 26 0 := by rw [hl]; omega
  have ek : (opAt ys).k % 256 = ys.getD 0 0 := by rw [k0]; have := hb 0; omega
  rw [e25, e26, ek]
theorem head_less {xs : List Int} (h : headB xs = true) : (xs.drop (sizeAt xs)).length < xs.length := by
  have h1 := (headB_iff.1 h).1
  rw [List.length_drop]
  unfold sizeAt at h1 ⊢
  omega
/-- ops one behind the other: which, and how many bytes they have -/
def takes (xs : List Int) : List POp × Nat :=
  if h : headB xs = true then
    (opAt xs :: (takes (xs.drop (sizeAt xs))).1, sizeAt xs + (takes (xs.drop (sizeAt xs))).2)
  else ([], 0)
  termination_by xs.length
  decreasing_by all_goals exact head_less h
theorem takes_head {xs : List Int} (h : headB xs = true) : takes xs = (opAt xs :: (takes (xs.drop (sizeAt xs))).1, sizeAt xs + (takes (xs.drop (sizeAt xs))).2) := by
  rw [takes, dif_pos h]
theorem takes_none {xs : List Int} (h : headB xs = false) : takes xs = ([], 0) := by
  rw [takes, dif_neg (by rw [h]; exact Bool.false_ne_true)]
theorem headB_nil : headB [] = false := by
  cases h : headB [] with
  | false => rfl
  | true => have := (headB_iff.1 h).1; unfold sizeAt at this; simp at this
theorem takes_nil : takes [] = ([], 0) := takes_none headB_nil
def encL (l : List POp) : List Int := l.flatMap encO
theorem encL_cons (p : POp) (l : List POp) : encL (p :: l) = encO p ++ encL l := rfl
theorem encL_app (a b : List POp) : encL (a ++ b) = encL a ++ encL b := by simp [encL]
def AllOk (l : List POp) : Prop := ∀ p ∈ l, POk p ∧ mayP p = true
theorem takes_enc (zs : List Int) : ∀ l : List POp, AllOk l → takes (encL l ++ zs) = (l ++ (takes zs).1, (encL l).length + (takes zs).2)
  | [], _ => by simp [encL]
  | p :: l, h => by
    have hp := h p (List.mem_cons_self)
    have hl : AllOk l := fun q hq => h q (List.mem_cons_of_mem _ hq)
    obtain ⟨h1, h2⟩ := opAt_enc p hp.1 hp.2 (encL l ++ zs)
    have h3 := head_enc p hp.1 hp.2 (encL l ++ zs)
    rw [encL_cons, List.append_assoc, takes_head h3, h1, h2, List.drop_left' rfl, takes_enc zs l hl, List.length_append]
    simp only [List.cons_append, Nat.add_assoc]
theorem takes_enc0 (l : List POp) (h : AllOk l) : takes (encL l) = (l, (encL l).length) := by
  have := takes_enc [] l h
  rw [takes_nil] at this
  simpa using this
theorem enc_takes (n : Nat) : ∀ xs : List Int, xs.length ≤ n → Bytes xs → encL (takes xs).1 = xs.take (takes xs).2 ∧ (takes xs).2 ≤ xs.length ∧ AllOk (takes xs).1 ∧ 27 * (takes xs).1.length ≤ (takes xs).2 ∧ headB (xs.drop (takes xs).2) = false := by
  induction n with
  | zero =>
    intro xs hn hb
    have : xs = [] := List.eq_nil_of_length_eq_zero (by omega)
    subst this
    rw [takes_nil]
    exact ⟨rfl, Nat.le_refl _, fun p hp => (List.not_mem_nil hp).elim, Nat.le_refl _, headB_nil⟩
  | succ n ih =>
    intro xs hn hb
    cases h : headB xs with
    | false =>
      rw [takes_none h]
      exact ⟨rfl, Nat.zero_le _, fun p hp => (List.not_mem_nil hp).elim, Nat.le_refl _, h⟩
    | true =>
      have h1 := headB_iff.1 h
      have hs : 27 ≤ sizeAt xs := by unfold sizeAt; omega
      obtain ⟨i1, i2, i3, i4, i5⟩ := ih (xs.drop (sizeAt xs)) (by rw [List.length_drop]; omega) (bytes_drop hb _)
      rw [takes_head h]
      rw [List.length_drop] at i2
      refine ⟨?_, ?_, ?_, ?_, ?_⟩
      · rw [encL_cons, enc_opAt hb h, i1, List.take_add]
      · show sizeAt xs + _ ≤ _; have := h1.1; omega
      · intro p hp
        rcases List.mem_cons.1 hp with rfl | hp
        · exact ⟨opAt_ok hb, h1.2⟩
        · exact i3 p hp
      · show 27 * (_ + 1) ≤ sizeAt xs + _; omega
      · show headB (xs.drop (sizeAt xs + _)) = false
        rw [← List.drop_drop]
        exact i5
/-- l ops were taken, e bytes in all -/
def Took (xs : List Int) (l : List POp) (e : Nat) : Prop := e ≤ xs.length ∧ 27 * l.length ≤ e ∧ takes xs = (l ++ (takes (xs.drop e)).1, e + (takes (xs.drop e)).2)
theorem took_nil (xs : List Int) : Took xs [] 0 := ⟨Nat.zero_le _, Nat.le_refl _, by simp⟩
theorem Took.step {xs : List Int} {l : List POp} {e : Nat} (h : Took xs l e) (hh : headB (xs.drop e) = true) : Took xs (l ++ [opAt (xs.drop e)]) (e + sizeAt (xs.drop e)) := by
  obtain ⟨h1, h2, h3⟩ := h
  have h4 := (headB_iff.1 hh).1
  rw [List.length_drop] at h4
  refine ⟨by omega, by rw [List.length_append]; unfold sizeAt; simp only [List.length_cons, List.length_nil]; omega, ?_⟩
  rw [h3, takes_head hh, List.drop_drop]
  simp only [List.append_assoc, List.cons_append, List.nil_append, Nat.add_assoc]
theorem Took.stop {xs : List Int} {l : List POp} {e : Nat} (h : Took xs l e) (hh : headB (xs.drop e) = false) : takes xs = (l, e) := by
  rw [h.2.2, takes_none hh]
  simp
theorem Took.done {xs : List Int} {l : List POp} (h : Took xs l xs.length) : takes xs = (l, xs.length) :=
  h.stop (by rw [List.drop_length]; exact headB_nil)
theorem encTo_encL (l : List POp) : ∀ k, k ≤ l.length → encTo l k = encL (l.take k)
  | 0, _ => rfl
  | k + 1, hk => by
    rw [encTo, encTo_encL l k (by omega), List.take_succ_eq_append_getElem (by omega), encL_app]
    have : l.getD k op0 = l[k] := by simp [List.getD, show k < l.length from by omega]
    rw [this]
    simp [encL]
theorem encTo_all (l : List POp) : encTo l l.length = encL l := by
  rw [encTo_encL l _ (Nat.le_refl _), List.take_length]
end Go.Proofs.Ytamaocdchlioaaa
