/- The op with which bytes begin (op.first). -/
import Derived.Test.YtamaocdchlioaaaOp10
import Derived.Laws.Bits64b
import Derived.BigRegion
namespace Go.Proofs.Ytamaocdchlioaaa
open Go.RowKit
set_option linter.unusedVariables false

/-- a byte above the bytes below it -/
theorem or_byte (r : Nat) (hr : r < 8) (A c : Int) (h0 : 0 ≤ A) (h1 : A < 256 ^ r) (hc0 : 0 ≤ c) (hc1 : c ≤ 255) : IntKind.u64.wrap (c * 2 ^ (8 * r)) = c * 256 ^ r ∧ bits .or .u64 A (c * 256 ^ r) = A + c * 256 ^ r := by
  obtain ⟨a, rfl⟩ := Int.eq_ofNat_of_zero_le h0
  obtain ⟨d, rfl⟩ := Int.eq_ofNat_of_zero_le hc0
  have hp : (2 : Int) ^ (8 * r) = 256 ^ r := by rw [Int.pow_mul]; rfl
  have hcast : ((d : Int) * 256 ^ r) = ((d <<< (8 * r) : Nat) : Int) := by
    rw [Nat.shiftLeft_eq, Nat.pow_mul, Int.natCast_mul, Int.natCast_pow]; rfl
  have hbd : d <<< (8 * r) < 18446744073709551616 := by
    rw [Nat.shiftLeft_eq]
    have : 2 ^ (8 * r) ≤ 2 ^ 56 := Nat.pow_le_pow_right (by omega) (by omega)
    have h2 : d * 2 ^ (8 * r) ≤ 255 * 2 ^ 56 := Nat.mul_le_mul (by omega) this
    omega
  have ha : a < 2 ^ (8 * r) := by
    have : (a : Int) < ((2 ^ (8 * r) : Nat) : Int) := by rw [Int.natCast_pow]; rw [hp.symm] at h1; exact h1
    omega
  have hab : a < 18446744073709551616 := by
    have : 2 ^ (8 * r) ≤ 2 ^ 56 := Nat.pow_le_pow_right (by omega) (by omega)
    omega
  refine ⟨?_, ?_⟩
  · rw [hp, hcast, u64_wrap]; exact Int.emod_eq_of_lt (Int.natCast_nonneg _) (Int.ofNat_lt.2 hbd)
  · rw [hcast, bits_or_u64_nat a _ hab hbd, Nat.or_comm, ← Nat.shiftLeft_add_eq_or_of_lt ha, Nat.add_comm]
    rfl
theorem word_bd (ys : List Int) (hb : Bytes ys) (o : Nat) : ∀ k, 0 ≤ word ys o k ∧ word ys o k < 256 ^ k
  | 0 => by simp [word]
  | k + 1 => by
    have h1 := word_bd ys hb o k
    have h2 := hb (o + k)
    rw [word, Int.pow_succ]
    have h3 : ys.getD (o + k) 0 * 256 ^ k ≤ 255 * 256 ^ k := Int.mul_le_mul_of_nonneg_right h2.2 (Int.le_of_lt (Int.pow_pos (by omega)))
    have h4 : 0 ≤ ys.getD (o + k) 0 * 256 ^ k := Int.mul_nonneg h2.1 (Int.le_of_lt (Int.pow_pos (by omega)))
    omega
/-- the word of one of three, m bytes read -/
def part3 (ys : List Int) (m q : Nat) : Int := word ys (1 + 8 * q) (min 8 (m - 8 * q))
theorem part3_step (ys : List Int) (m q r : Nat) (hm : m = 8 * q + r) (hr : r < 8) : part3 ys m q = word ys (1 + 8 * q) r ∧ part3 ys (m + 1) q = word ys (1 + 8 * q) r + ys.getD (1 + m) 0 * 256 ^ r := by
  unfold part3
  have e1 : min 8 (m - 8 * q) = r := by omega
  have e2 : min 8 (m + 1 - 8 * q) = r + 1 := by omega
  rw [e1, e2, word, show 1 + 8 * q + r = 1 + m from by omega]
  exact ⟨rfl, rfl⟩
theorem part3_same (ys : List Int) (m q q' r : Nat) (hm : m = 8 * q + r) (hr : r < 8) (hq : q' ≠ q) : part3 ys (m + 1) q' = part3 ys m q' := by
  unfold part3
  rw [show min 8 (m + 1 - 8 * q') = min 8 (m - 8 * q') from by omega]
theorem part3_zero (ys : List Int) (q : Nat) : part3 ys 0 q = 0 := by
  unfold part3
  rw [show min 8 (0 - 8 * q) = 0 from by omega]
  rfl
theorem part3_all (ys : List Int) (q : Nat) (hq : q ≤ 2) : part3 ys 24 q = word ys (1 + 8 * q) 8 := by
  unfold part3
  rw [show min 8 (24 - 8 * q) = 8 from by omega]
/-- what the op at the head comes to -/
def First (ys : List Int) (w : World) (v : Value) (n : Int) : Prop := ∃ (p : POp) (ad : Option Addr) (k cp : Nat), v = opV p (.slice ad k cp) ∧ ((headB ys = true ∧ n = (sizeAt ys : Nat) ∧ p = opAt ys ∧ LB w (.slice ad k cp) p.d) ∨ (headB ys = false ∧ n = 0))
theorem blkA_set {w : World} {g : Nat} {t : TypeId} {c0 c1 c2 : Value} (h : w.heap[g]? = some (.cells #[c0, c1, c2] t (0, 0))) (u : Value) : (w.setCell ⟨g, 0, none⟩ u).heap[g]? = some (.cells #[u, c1, c2] t (0, 0)) ∧ (w.setCell ⟨g, 1, none⟩ u).heap[g]? = some (.cells #[c0, u, c2] t (0, 0)) ∧ (w.setCell ⟨g, 2, none⟩ u).heap[g]? = some (.cells #[c0, c1, u] t (0, 0)) :=
  ⟨blk_set h 0 u, blk_set h 1 u, blk_set h 2 u⟩
set_option maxRecDepth 100000 in
set_option maxHeartbeats 8000000 in
theorem first_any (w0 w : World) (v : Value) (ys : List Int) (h : LB w0 v ys) (hw : Below w0.heap.size w0 w) (hb : Bytes ys) (hl : ys.length ≤ 60000) : Calls Try.prog 20 #[v] w fun e w' => ∃ v' n, e = .returned (.tuple #[v', .int .i64 n]) ∧ First ys w0 v' n ∧ Below w.heap.size w w' := by
  have H := Lib.hid h
  have HB := Lib.hid hb
  have HW := Lib.hid hw
  clear hw
  obtain ⟨A, c, rfl, hc, hm, hA, _⟩ := h
  unfold maxLen at hm
  clear hb
  obtain ⟨n, hn⟩ : ∃ n, n = ys.length := ⟨_, rfl⟩
  rw [← hn] at H hc hl ⊢
  have HN := Lib.hid hn
  clear hn hA
  by_cases h27 : n < 27
  · have HF : Hid (headB ys = false) := Lib.hid (by have := short_head (xs := ys) (e := 0) (by rw [← HN.out]; omega); exact this)
    go_enter Try.func20, Try.ntmps20
    go_wp2_with fail
    refine bodyPost_ret (v := .tuple #[opV op0 (.slice none 0 0), .int .i64 0]) (by simp [results, Try.results20, go_sem, opV, op0]) rfl ⟨_, _, rfl, ⟨op0, _, _, _, rfl, .inr ⟨HF.out, rfl⟩⟩, ?_⟩
    exact ((Below.refl _ _).alloc (Nat.le_refl _) _)
  · obtain ⟨b, off, c', hv, _, _, hx⟩ := H.out.elem (k := 0) (by rw [← HN.out]; omega)
    have HX : Hid (∀ k, k < n → ∀ wr, Below w.heap.size w wr → wr.cell? ⟨b, off + k, none⟩ = some (.int .u8 (ys.getD k 0))) := Lib.hid (fun k hk wr hbw => by
      obtain ⟨b', off', c'', hv', _, _, hx'⟩ := H.out.elem (k := k) (by rw [← HN.out]; exact hk)
      rw [hv] at hv'
      injection hv' with e1 e2 e3
      injection e1 with e1
      injection e1 with e4 e5
      subst e4; subst e5
      exact hx' wr (HW.out.trans (hbw.mono HW.out.size)))
    injection hv with e1 e2 e3
    subst e1
    subst e3
    clear hx e2
    have d1 : ¬ (c = 1) := by omega
    have X0 := Lib.hid (blk_alloc (blk_new w (.cells #[.int .i64 0, .int .i64 0, .int .i64 0, .int .i64 0, .slice none 0 0] 40)) (.cells #[.int .u64 0, .int .u64 0, .int .u64 0] 52))
    have X1 := Lib.hid (blk_new (w.alloc (.cells #[.int .i64 0, .int .i64 0, .int .i64 0, .int .i64 0, .slice none 0 0] 40)) (.cells #[.int .u64 0, .int .u64 0, .int .u64 0] 52))
    have B0 := Lib.hid (((Below.refl w.heap.size w).alloc (Nat.le_refl _) (.cells #[.int .i64 0, .int .i64 0, .int .i64 0, .int .i64 0, .slice none 0 0] 40)).alloc (by simp) (.cells #[.int .u64 0, .int .u64 0, .int .u64 0] 52))
    go_enter Try.func20, Try.ntmps20
    go_wp2_with fail
    go_loopw [16] (fun iv wr => ∃ m : Nat, m ≤ 24 ∧ iv = .int .i64 m ∧ wr.heap[w.heap.size]? = some (.cells #[.int .i64 0, .int .i64 0, .int .i64 0, .int .i64 0, .slice none 0 0] 40 (0, 0)) ∧ wr.heap[w.heap.size + 1]? = some (.cells #[.int .u64 (part3 ys m 0), .int .u64 (part3 ys m 1), .int .u64 (part3 ys m 2)] 52 (0, 0)) ∧ Below w.heap.size w wr) (fun iv _ => 24 - (intOf iv).toNat)
    case atStart => exact ⟨0, by omega, rfl, X0.out, by rw [part3_zero, part3_zero, part3_zero]; have := X1.out; simp only [World.size_alloc] at this; exact this, B0.out⟩
    case round =>
      obtain ⟨m, hm24, rfl, hX, hA, br⟩ := hrel
      have HXR := Lib.hid hX
      have BR := Lib.hid br
      clear hX br
      by_cases hlt : m < 24
      · have x := HX.out (1 + m) (by omega) wr BR.out
        rw [← Nat.add_assoc] at x
        have hy := HB.out (1 + m)
        by_cases hm8 : m < 8
        · obtain ⟨r, hmr⟩ : ∃ r, m = 8 * 0 + r := ⟨m - 8 * 0, by omega⟩
          have hr : r < 8 := by omega
          have hst := part3_step ys m 0 r hmr hr
          have hoth := fun q' (h : q' ≠ 0) => part3_same ys m 0 q' r hmr hr h
          have ob := or_byte r hr (word ys (1 + 8 * 0) r) (ys.getD (1 + m) 0) (word_bd ys HB.out _ _).1 (word_bd ys HB.out _ _).2 hy.1 hy.2
          rw [hst.1] at hA
          have xq := blk_cell hA 0
          have HNA := Lib.hid hA
          have HST := Lib.hid hst.2
          have HO1 := Lib.hid (hoth 1 (by decide))
          have HO2 := Lib.hid (hoth 2 (by decide))
          clear hst hoth hA
          generalize ys.getD (1 + m) 0 * 256 ^ r = Z at ob HST
          generalize word ys (1 + 8 * 0) r = X at ob HST HNA xq
          generalize ys.getD (1 + m) 0 = Y at ob x hy
          generalize part3 ys m 1 = P1 at HNA HO1
          generalize part3 ys m 2 = P2 at HNA HO2
          obtain ⟨ob1, ob2⟩ := ob
          have f1 : (m : Int).tdiv 8 = 0 := by rw [Int.tdiv_eq_ediv_of_nonneg (by omega)]; omega
          have f2 : (m : Int).tmod 8 = r := by rw [Int.tmod_eq_emod_of_nonneg (by omega)]; omega
          have f3 : IntKind.i64.wrap (r : Int) = r := IntWalk.i64_in _ (by omega)
          have f4 : IntKind.i64.wrap (8 * (r : Int)) = 8 * (r : Int) := IntWalk.i64_in _ (by omega)
          have f5 : (8 * (r : Int)).toNat = 8 * r := by omega
          have f6 : IntKind.u64.wrap Y = Y := by rw [u64_wrap]; unfold uns; omega
          have f7 : (0 : Int) ≤ 8 * (r : Int) := by omega
          have f8 : IntKind.i64.wrap (0 : Int) = 0 := by decide
          clear hmr
          go_wp2_with fail
          go_still_tail 12, (by kernel_rfl)
          change wpList _ _ _ _ _ wr.drew
          have hd := blk_drew HNA.out
          have hX := blk_drew HXR.out
          have hB := below_drewN BR.out 1
          have hB' : Below w.heap.size w wr.drew := hB
          clear xq x hB
          have xf := blk_frozen hd 0
          have xc := blk_cell hd 0
          generalize wr.drew = w2 at hd hX hB' xf xc ⊢
          have HD := Lib.hid hd
          have HX2 := Lib.hid hX
          have HB2 := Lib.hid hB'
          clear hd hX hB'
          go_wp2_with fail
          go_roundw
          case rel => exact ⟨m + 1, by omega, by go_num, blk_far HX2.out (by simp) _, by rw [HST.out, HO1.out, HO2.out]; exact (blkA_set HD.out _).1, HB2.out.setCell (by simp) _⟩
          case measure => simp [intOf]; omega
        · by_cases hm16 : m < 16
          · obtain ⟨r, hmr⟩ : ∃ r, m = 8 * 1 + r := ⟨m - 8 * 1, by omega⟩
            have hr : r < 8 := by omega
            have hst := part3_step ys m 1 r hmr hr
            have hoth := fun q' (h : q' ≠ 1) => part3_same ys m 1 q' r hmr hr h
            have ob := or_byte r hr (word ys (1 + 8 * 1) r) (ys.getD (1 + m) 0) (word_bd ys HB.out _ _).1 (word_bd ys HB.out _ _).2 hy.1 hy.2
            rw [hst.1] at hA
            have xq := blk_cell hA 1
            have HNA := Lib.hid hA
            have HST := Lib.hid hst.2
            have HO1 := Lib.hid (hoth 0 (by decide))
            have HO2 := Lib.hid (hoth 2 (by decide))
            clear hst hoth hA
            generalize ys.getD (1 + m) 0 * 256 ^ r = Z at ob HST
            generalize word ys (1 + 8 * 1) r = X at ob HST HNA xq
            generalize ys.getD (1 + m) 0 = Y at ob x hy
            generalize part3 ys m 0 = P1 at HNA HO1
            generalize part3 ys m 2 = P2 at HNA HO2
            obtain ⟨ob1, ob2⟩ := ob
            have f1 : (m : Int).tdiv 8 = 1 := by rw [Int.tdiv_eq_ediv_of_nonneg (by omega)]; omega
            have f2 : (m : Int).tmod 8 = r := by rw [Int.tmod_eq_emod_of_nonneg (by omega)]; omega
            have f3 : IntKind.i64.wrap (r : Int) = r := IntWalk.i64_in _ (by omega)
            have f4 : IntKind.i64.wrap (8 * (r : Int)) = 8 * (r : Int) := IntWalk.i64_in _ (by omega)
            have f5 : (8 * (r : Int)).toNat = 8 * r := by omega
            have f6 : IntKind.u64.wrap Y = Y := by rw [u64_wrap]; unfold uns; omega
            have f7 : (0 : Int) ≤ 8 * (r : Int) := by omega
            have f8 : IntKind.i64.wrap (1 : Int) = 1 := by decide
            clear hmr
            go_wp2_with fail
            go_still_tail 12, (by kernel_rfl)
            change wpList _ _ _ _ _ wr.drew
            have hd := blk_drew HNA.out
            have hX := blk_drew HXR.out
            have hB := below_drewN BR.out 1
            have hB' : Below w.heap.size w wr.drew := hB
            clear xq x hB
            have xf := blk_frozen hd 1
            have xc := blk_cell hd 1
            generalize wr.drew = w2 at hd hX hB' xf xc ⊢
            have HD := Lib.hid hd
            have HX2 := Lib.hid hX
            have HB2 := Lib.hid hB'
            clear hd hX hB'
            go_wp2_with fail
            go_roundw
            case rel => exact ⟨m + 1, by omega, by go_num, blk_far HX2.out (by simp) _, by rw [HST.out, HO1.out, HO2.out]; exact (blkA_set HD.out _).2.1, HB2.out.setCell (by simp) _⟩
            case measure => simp [intOf]; omega
          · obtain ⟨r, hmr⟩ : ∃ r, m = 8 * 2 + r := ⟨m - 8 * 2, by omega⟩
            have hr : r < 8 := by omega
            have hst := part3_step ys m 2 r hmr hr
            have hoth := fun q' (h : q' ≠ 2) => part3_same ys m 2 q' r hmr hr h
            have ob := or_byte r hr (word ys (1 + 8 * 2) r) (ys.getD (1 + m) 0) (word_bd ys HB.out _ _).1 (word_bd ys HB.out _ _).2 hy.1 hy.2
            rw [hst.1] at hA
            have xq := blk_cell hA 2
            have HNA := Lib.hid hA
            have HST := Lib.hid hst.2
            have HO1 := Lib.hid (hoth 0 (by decide))
            have HO2 := Lib.hid (hoth 1 (by decide))
            clear hst hoth hA
            generalize ys.getD (1 + m) 0 * 256 ^ r = Z at ob HST
            generalize word ys (1 + 8 * 2) r = X at ob HST HNA xq
            generalize ys.getD (1 + m) 0 = Y at ob x hy
            generalize part3 ys m 0 = P1 at HNA HO1
            generalize part3 ys m 1 = P2 at HNA HO2
            obtain ⟨ob1, ob2⟩ := ob
            have f1 : (m : Int).tdiv 8 = 2 := by rw [Int.tdiv_eq_ediv_of_nonneg (by omega)]; omega
            have f2 : (m : Int).tmod 8 = r := by rw [Int.tmod_eq_emod_of_nonneg (by omega)]; omega
            have f3 : IntKind.i64.wrap (r : Int) = r := IntWalk.i64_in _ (by omega)
            have f4 : IntKind.i64.wrap (8 * (r : Int)) = 8 * (r : Int) := IntWalk.i64_in _ (by omega)
            have f5 : (8 * (r : Int)).toNat = 8 * r := by omega
            have f6 : IntKind.u64.wrap Y = Y := by rw [u64_wrap]; unfold uns; omega
            have f7 : (0 : Int) ≤ 8 * (r : Int) := by omega
            have f8 : IntKind.i64.wrap (2 : Int) = 2 := by decide
            clear hmr
            go_wp2_with fail
            go_still_tail 12, (by kernel_rfl)
            change wpList _ _ _ _ _ wr.drew
            have hd := blk_drew HNA.out
            have hX := blk_drew HXR.out
            have hB := below_drewN BR.out 1
            have hB' : Below w.heap.size w wr.drew := hB
            clear xq x hB
            have xf := blk_frozen hd 2
            have xc := blk_cell hd 2
            generalize wr.drew = w2 at hd hX hB' xf xc ⊢
            have HD := Lib.hid hd
            have HX2 := Lib.hid hX
            have HB2 := Lib.hid hB'
            clear hd hX hB'
            go_wp2_with fail
            go_roundw
            case rel => exact ⟨m + 1, by omega, by go_num, blk_far HX2.out (by simp) _, by rw [HST.out, HO1.out, HO2.out]; exact (blkA_set HD.out _).2.2, HB2.out.setCell (by simp) _⟩
            case measure => simp [intOf]; omega
      · obtain rfl : m = 24 := by omega
        rw [part3_all ys 0 (by omega), part3_all ys 1 (by omega), part3_all ys 2 (by omega)] at hA
        have HA3 := Lib.hid hA
        clear hA
        have hb25 := HB.out 25
        have hb26 := HB.out 26
        have x25 := HX.out 25 (by omega) wr BR.out
        have x26 := HX.out 26 (by omega) wr BR.out
        obtain ⟨m, hm0⟩ : ∃ m, m = nAt ys := ⟨_, rfl⟩
        have hmI : (m : Int) = ys.getD 25 0 + 256 * ys.getD 26 0 := by rw [hm0]; exact nAt_eq HB.out
        have HM := Lib.hid hm0
        clear hm0
        generalize ys.getD 25 0 = y25 at hb25 x25 hmI
        generalize ys.getD 26 0 = y26 at hb26 x26 hmI
        have w3 : IntKind.i64.wrap y25 = y25 := IntWalk.i64_in _ (by omega)
        have w4 : IntKind.i64.wrap y26 = y26 := IntWalk.i64_in _ (by omega)
        have w5 : IntKind.i64.wrap (y26 * 256) = y26 * 256 := IntWalk.i64_in _ (by omega)
        have w6 : IntKind.i64.wrap (27 + y25) = 27 + y25 := IntWalk.i64_in _ (by omega)
        have w7 : IntKind.i64.wrap (27 + y25 + y26 * 256) = 27 + y25 + y26 * 256 := IntWalk.i64_in _ (by omega)
        go_wp2_with fail
        go_quiet (fail)
        clear w3 w4 w5 w6 w7
        have B1 := Lib.hid (below_drewN BR.out nq)
        have H1 := Lib.hid (blk_drewN HXR.out nq)
        have A1 := Lib.hid (blk_drewN HA3.out nq)
        clear x25 x26
        generalize wr.drewN nq = w1 at B1 H1 A1 ⊢
        obtain ⟨M, hM⟩ : ∃ M, M = 27 + m := ⟨_, rfl⟩
        generalize hM0 : 27 + y25 + y26 * 256 = M0 at ⊢
        obtain rfl : M0 = (M : Int) := by omega
        have hMb : 27 ≤ M ∧ M ≤ 65562 := by omega
        have HMM := Lib.hid hM
        clear hM0 hmI hb25 hb26 hM
        by_cases hfit : M ≤ n
        · have hhd := head_of (xs := ys) (e := 0) (m := m) HM.out (by have := HMM.out; rw [← HN.out]; omega)
          rw [List.drop_zero] at hhd
          have HDL := Lib.hid hhd.1
          have HHD := Lib.hid hhd.2
          have HSZ : Hid ((M : Nat) = sizeAt ys) := Lib.hid (by rw [HMM.out, HM.out]; rfl)
          have hk0 := HB.out 0
          have x0 := HX.out 0 (by omega) w1 B1.out
          have hpk : ys.getD 0 0 = (opAt ys).k := rfl
          rw [Nat.add_zero] at x0
          rw [hpk] at x0 hk0
          have a0 := blk_cell A1.out 0
          have a1 := blk_cell A1.out 1
          have a2 := blk_cell A1.out 2
          have g1 : IntKind.i64.wrap (word ys (1 + 8 * 0) 8) = (opAt ys).a := rfl
          have g2 : IntKind.i64.wrap (word ys (1 + 8 * 1) 8) = (opAt ys).b := rfl
          have g3 : IntKind.i64.wrap (word ys (1 + 8 * 2) 8) = (opAt ys).c := rfl
          have hpd : (opAt ys).d = (ys.drop (0 + 27)).take m := by show (ys.drop 27).take (nAt ys) = _; rw [← HM.out]
          have HPD := Lib.hid hpd
          have HPO : Hid (opAt ys = opAt ys) := Lib.hid rfl
          clear hpk hpd hhd
          generalize hp : opAt ys = p at x0 hk0 HDL HHD HPD g1 g2 g3
          have HP := Lib.hid hp
          clear hp
          generalize word ys (1 + 8 * 0) 8 = W1 at a0 g1 A1
          generalize word ys (1 + 8 * 1) 8 = W2 at a1 g2 A1
          generalize word ys (1 + 8 * 2) 8 = W3 at a2 g3 A1
          have HELD := Lib.hid (fun W (k : Below w1.heap.size w1 W) => (⟨k, (k.cell (p := ⟨b, off, none⟩) (World.block_lt_of_cell? w1 _ x0)).trans x0, (k.cell (p := ⟨w.heap.size + 1, 0, none⟩) (World.block_lt_of_cell? w1 _ a0)).trans a0, (k.cell (p := ⟨w.heap.size + 1, 1, none⟩) (World.block_lt_of_cell? w1 _ a1)).trans a1, (k.cell (p := ⟨w.heap.size + 1, 2, none⟩) (World.block_lt_of_cell? w1 _ a2)).trans a2⟩ : Below w1.heap.size w1 W ∧ W.cell? ⟨b, off, none⟩ = some (.int .u8 p.k) ∧ W.cell? ⟨w.heap.size + 1, 0, none⟩ = some (.int .u64 W1) ∧ W.cell? ⟨w.heap.size + 1, 1, none⟩ = some (.int .u64 W2) ∧ W.cell? ⟨w.heap.size + 1, 2, none⟩ = some (.int .u64 W3)))
          obtain ⟨AD, hAD⟩ : ∃ AD, AD = (if M = 27 then some (⟨b, off, none⟩ : Addr) else some ⟨b, off + 27, none⟩) := ⟨_, rfl⟩
          have HAD := Lib.hid hAD
          clear hAD
          have HLD : Hid (LB w0 (.slice AD m m) p.d) := Lib.hid (by
            rw [HPD.out, HAD.out, HMM.out]
            by_cases h0 : m = 0
            · rw [h0]; exact lb_none rfl (fun _ => rfl) (by unfold maxLen; omega)
            · rw [if_neg (by omega)]
              have hmM := HMM.out
              exact lb_piece (c := c) (by rw [← HN.out]; exact H.out) 27 m (by rw [← HN.out]; omega) (by omega) _ (Nat.le_refl _) (by omega))
          go_wp2_with fail
          have w3 : IntKind.i64.wrap p.k = p.k := IntWalk.i64_in _ (by omega)
          have w4 : (M : Int).toNat = M := by omega
          have w5 : (27 : Int) ≤ (M : Int) := by omega
          have w6 : (M : Int) ≤ (c : Int) := by omega
          have w7 : (0 : Int) ≤ (M : Int) := by omega
          have w8 : M - 27 = m := by have := HMM.out; omega
          have w10 : (0 : Int) < (n : Int) := by omega
          have w11 : 0 < n := by omega
          have w9 : (if M = 27 then some (⟨b, off, none⟩ : Addr) else some ⟨b, off + 27, none⟩) = AD := HAD.out.symm
          go_region_held3 (fun W => Below w1.heap.size w1 W ∧ W.cell? ⟨b, off, none⟩ = some (.int .u8 p.k) ∧ W.cell? ⟨w.heap.size + 1, 0, none⟩ = some (.int .u64 W1) ∧ W.cell? ⟨w.heap.size + 1, 1, none⟩ = some (.int .u64 W2) ∧ W.cell? ⟨w.heap.size + 1, 2, none⟩ = some (.int .u64 W3))
            (first
              | exact HELD.out _ (Below.refl _ _)
              | exact HELD.out _ (below_drew (Below.refl _ _))
              | exact HELD.out _ ((below_drew (Below.refl _ _)).alloc (Nat.le_refl _) _)
              | exact HELD.out _ (below_drew ((Below.refl _ _).alloc (Nat.le_refl _) _))
              | exact HELD.out _ ((Below.refl _ _).alloc (Nat.le_refl _) _)
              | exact HELD.out _ (below5 ((below_drew (Below.refl _ _)).alloc (Nat.le_refl _) _) (Nat.le_refl _) _ _ _ _ _)
              | exact HELD.out _ (below5 (below_drew ((Below.refl _ _).alloc (Nat.le_refl _) _)) (Nat.le_refl _) _ _ _ _ _))
            (fail)
          all_goals
            clear w3 w4 w5 w6 w7 w8 w9 w10 w11
            rename_i hH
            have bY := hH.1
            have hY : ((w1.alloc (.cells #[.int .i64 p.k, .int .i64 p.a, .int .i64 p.b, .int .i64 p.c, .slice AD m m] 40)).drew).heap[w1.heap.size]? = some (.cells #[.int .i64 p.k, .int .i64 p.a, .int .i64 p.b, .int .i64 p.c, .slice AD m m] 40) := blk_new w1 _
            clear hH
            generalize (w1.alloc (.cells #[.int .i64 p.k, .int .i64 p.a, .int .i64 p.b, .int .i64 p.c, .slice AD m m] 40)).drew = WY at bY hY ⊢
            have BY := Lib.hid (B1.out.trans (bY.mono B1.out.size))
            have H0Y := Lib.hid (below_blk bY H1.out (blk_lt H1.out))
            have HYY := Lib.hid hY
            have hzW := bY.size
            clear x0 a0 a1 a2
            have y0 := blk_cell hY 0
            have y1 := blk_cell hY 1
            have y2 := blk_cell hY 2
            have y3 := blk_cell hY 3
            have y4 := blk_cell hY 4
            clear hY bY
            have hmk : mayK p.k m = true ∨ mayK p.k m = false := by cases mayK p.k m <;> simp
            rcases hmk with hmk | hmk
            · have HMK := Lib.hid hmk
              clear hmk
              go_wp2_with fail
              refine (may_any _ p.k p.a p.b p.c _ m _).mono ?_
              rw [HMK.out]
              rintro e' w2 ⟨rfl, b2⟩
              have B2 := Lib.hid (BY.out.trans (b2.mono BY.out.size))
              have H2 := Lib.hid (below_blk b2 HYY.out (blk_lt HYY.out))
              have HZ2 := Lib.hid (below_blk b2 H0Y.out (blk_lt H0Y.out))
              clear b2 y0 y1 y2 y3 y4
              have y0 := blk_cell H2.out 0
              have y1 := blk_cell H2.out 1
              have y2 := blk_cell H2.out 2
              have y3 := blk_cell H2.out 3
              have y4 := blk_cell H2.out 4
              have q0 := blk_cell HZ2.out 0
              have q1 := blk_cell HZ2.out 1
              have q2 := blk_cell HZ2.out 2
              have q3 := blk_cell HZ2.out 3
              have q4 := blk_cell HZ2.out 4
              have f0 := blk_frozen HZ2.out 0
              have f1 := blk_frozen HZ2.out 1
              have f2 := blk_frozen HZ2.out 2
              have f3 := blk_frozen HZ2.out 3
              have f4 := blk_frozen HZ2.out 4
              go_wp2_with fail
              have hz := fill5 HZ2.out (.int .i64 p.k) (.int .i64 p.a) (.int .i64 p.b) (.int .i64 p.c) (.slice AD m m)
              clear q0 q1 q2 q3 q4 y0 y1 y2 y3 y4
              have q0 := blk_cell hz 0
              have q1 := blk_cell hz 1
              have q2 := blk_cell hz 2
              have q3 := blk_cell hz 3
              have q4 := blk_cell hz 4
              refine bodyPost_ret (v := .tuple #[opV p (.slice AD m m), .int .i64 M]) (by simp [results, Try.results20, go_sem, opV, q0, q1, q2, q3, q4]) rfl ⟨_, _, rfl, ⟨p, _, _, _, rfl, .inl ⟨HHD.out.trans HMK.out, by rw [HSZ.out], HP.out.symm, HLD.out⟩⟩, ?_⟩
              exact below5 B2.out (Nat.le_refl _) _ _ _ _ _
            · have HMK := Lib.hid hmk
              clear hmk
              go_wp2_with fail
              refine (may_any _ p.k p.a p.b p.c _ m _).mono ?_
              rw [HMK.out]
              rintro e' w2 ⟨rfl, b2⟩
              have B2 := Lib.hid (BY.out.trans (b2.mono BY.out.size))
              have HZ2 := Lib.hid (below_blk b2 H0Y.out (blk_lt H0Y.out))
              clear b2 y0 y1 y2 y3 y4
              have q0 := blk_cell HZ2.out 0
              have q1 := blk_cell HZ2.out 1
              have q2 := blk_cell HZ2.out 2
              have q3 := blk_cell HZ2.out 3
              have q4 := blk_cell HZ2.out 4
              have f0 := blk_frozen HZ2.out 0
              have f1 := blk_frozen HZ2.out 1
              have f2 := blk_frozen HZ2.out 2
              have f3 := blk_frozen HZ2.out 3
              have f4 := blk_frozen HZ2.out 4
              go_wp2_with fail
              have hz := fill5 HZ2.out (.int .i64 0) (.int .i64 0) (.int .i64 0) (.int .i64 0) (.slice none 0 0)
              clear q0 q1 q2 q3 q4
              have q0 := blk_cell hz 0
              have q1 := blk_cell hz 1
              have q2 := blk_cell hz 2
              have q3 := blk_cell hz 3
              have q4 := blk_cell hz 4
              refine bodyPost_ret (v := .tuple #[opV op0 (.slice none 0 0), .int .i64 0]) (by simp [results, Try.results20, go_sem, opV, op0, q0, q1, q2, q3, q4]) rfl ⟨_, _, rfl, ⟨op0, _, _, _, rfl, .inr ⟨HHD.out.trans HMK.out, rfl⟩⟩, ?_⟩
              exact below5 B2.out (Nat.le_refl _) _ _ _ _ _
        · have HF : Hid (headB ys = false) := Lib.hid (by have := long_head (xs := ys) (e := 0) (m := m) HM.out (by have := HMM.out; rw [← HN.out]; omega); exact this)
          have q0 := blk_cell H1.out 0
          have q1 := blk_cell H1.out 1
          have q2 := blk_cell H1.out 2
          have q3 := blk_cell H1.out 3
          have q4 := blk_cell H1.out 4
          have f0 := blk_frozen H1.out 0
          have f1 := blk_frozen H1.out 1
          have f2 := blk_frozen H1.out 2
          have f3 := blk_frozen H1.out 3
          have f4 := blk_frozen H1.out 4
          go_wp2_with fail
          have hz := fill5 H1.out (.int .i64 0) (.int .i64 0) (.int .i64 0) (.int .i64 0) (.slice none 0 0)
          clear q0 q1 q2 q3 q4
          have q0 := blk_cell hz 0
          have q1 := blk_cell hz 1
          have q2 := blk_cell hz 2
          have q3 := blk_cell hz 3
          have q4 := blk_cell hz 4
          refine bodyPost_ret (v := .tuple #[opV op0 (.slice none 0 0), .int .i64 0]) (by simp [results, Try.results20, go_sem, opV, op0, q0, q1, q2, q3, q4]) rfl ⟨_, _, rfl, ⟨op0, _, _, _, rfl, .inr ⟨HF.out, rfl⟩⟩, ?_⟩
          exact below5 B1.out (Nat.le_refl _) _ _ _ _ _
end Go.Proofs.Ytamaocdchlioaaa
