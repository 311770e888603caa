/- op.Put. -/
import Derived.Test.YtamaocdchlioaaaOp5
import Derived.Laws.IdiomArrays
namespace Go.Proofs.Ytamaocdchlioaaa
open Go.RowKit
set_option linter.unusedVariables false

theorem own_other {w : World} {B n x : Nat} {v : Value} {xs : List Value} {cs : Array Value} (h : w.ownsRow B 5 1 v n xs) (hx : w.heap[x]? = some (.cells cs 40 (0, 0))) : ∀ g, v.ownBlock = some g → x ≠ g := by
  intro g e hgx
  obtain ⟨_, ⟨rfl, _⟩ | ⟨g', cap, cur, rfl, hb, hgg, _⟩⟩ := h
  · cases e
  · have he : g' = g := Option.some.inj e
    rw [he, ← hgx, hx] at hgg
    injection hgg with h1
    injection h1 with h1 h2
    exact absurd h2 (by decide)
theorem grown_box {wA wB : World} {B n x : Nat} {v : Value} {xs : List Value} {cs : Array Value} (hx : wA.heap[x]? = some (.cells cs 40 (0, 0))) (ho : wA.ownsRow B 5 1 v n xs) (hg : wA.grownBy wB v.ownBlock) : wB.heap[x]? = some (.cells cs 40 (0, 0)) :=
  (keep_of_grown hg).blk hx (fun e => own_other ho hx _ e rfl)
theorem shr_byte (N : Int) (k : Nat) : N / 2 ^ (8 * k) = N / 256 ^ k := by
  rw [Int.pow_mul]; rfl
def nthOf (p : POp) (j : Nat) : Int := if j = 0 then p.a else if j = 1 then p.b else p.c
def numsTo (p : POp) : Nat → List Int
  | 0 => []
  | j + 1 => numsTo p j ++ numB (nthOf p j)
theorem numsTo_len (p : POp) : ∀ j, (numsTo p j).length = 8 * j
  | 0 => rfl
  | j + 1 => by rw [numsTo, List.length_append, numsTo_len p j, numB_len]; omega
theorem encO_eq (p : POp) : encO p = [p.k % 256] ++ numsTo p 3 ++ [(p.d.length : Int) % 256, (p.d.length : Int) / 256 % 256] ++ p.d := by
  simp [encO, enc, numsTo, nthOf]
set_option maxRecDepth 100000 in
set_option maxHeartbeats 4000000 in
theorem put_any (w : World) (v : Value) (l : List POp) (h : OV w v l) (hs : Small l) : Calls Try.prog 10 #[v] w fun e w' => ∃ v' er, e = .returned (.tuple #[v', .int .i64 er]) ∧ Puts l w' v' er ∧ Below w.heap.size w w' := by
  obtain ⟨i0, ei, ez0, ez1, ez2⟩ := info_parts Try.infoB
  have H := Lib.hid h
  have HS := Lib.hid hs
  obtain ⟨A, c, rfl, hc, hm, _, _⟩ := h
  unfold maxLen at hm
  clear hs
  have hab : allMayB l = true ∨ allMayB l = false := by cases allMayB l <;> simp
  rcases hab with hab | hab
  · have HA := Lib.hid (allMayB_iff.1 hab)
    have HAB := Lib.hid hab
    clear hab
    go_enter Try.func10, Try.ntmps10
    go_wp2_with fail
    refine (contains_any w _ l H.out).mono ?_
    rw [HAB.out]
    rintro e w1 ⟨rfl, b1⟩
    have B1 := Lib.hid b1
    clear b1
    go_wp2_with fail
    go_loopw [4, 14] (fun ov iv wr => ∃ (k q : Nat), k ≤ l.length ∧ iv = .int .i64 k ∧ q = (encTo l k).length ∧ wr.ownsRow w.heap.size 5 1 ov q (bcells (encTo l k)) ∧ Below w.heap.size w wr) (fun _ iv _ => l.length - (intOf iv).toNat)
    case atStart => exact ⟨0, 0, Nat.zero_le _, rfl, rfl, ⟨rfl, .inl ⟨rfl, rfl⟩⟩, B1.out⟩
    case round =>
      obtain ⟨k, q, hk, rfl, hq, ho, br⟩ := hrel
      have BR := Lib.hid br
      have O := Lib.hid ho
      have HQ := Lib.hid hq
      have hq2 : q ≤ 60000 := by have := HS.out.le hk; omega
      clear br ho hq
      by_cases hlt : k < l.length
      · have E := H.out.elem hlt
        obtain ⟨b, off, c', dv, hv, h1, h2, hlb, hx⟩ := E
        cases hv
        have HLB := Lib.hid hlb
        obtain ⟨ad, cd, rfl, _, _, _, _⟩ := hlb
        obtain ⟨x0, x1, x2, x3, x4⟩ := hx wr BR.out
        have hd3 : (l.getD k op0).d.length ≤ 60000 := by have := HS.out.op hlt; omega
        have HE : Hid (encTo l (k + 1) = encTo l k ++ encO (l.getD k op0)) := Lib.hid rfl
        generalize l.getD k op0 = p at x0 x1 x2 x3 x4 HLB HE hd3
        obtain ⟨n, hn⟩ : ∃ n, n = p.d.length := ⟨_, rfl⟩
        rw [← hn] at x4 HLB hd3
        have HNL := Lib.hid hn
        clear hx h1 h2 hn
        have wk := u8_wrap p.k
        have XB := Lib.hid (blk_new wr (.cells #[.int .i64 p.k, .int .i64 p.a, .int .i64 p.b, .int .i64 p.c, .slice ad n cd] 40))
        have hz := BR.out.size
        have hsz : (wr.alloc (.cells #[.int .i64 p.k, .int .i64 p.a, .int .i64 p.b, .int .i64 p.c, .slice ad n cd] 40)).heap.size = wr.heap.size + 1 := by simp
        have hnews := Lib.hid (new_cells (wr.alloc (.cells #[.int .i64 p.k, .int .i64 p.a, .int .i64 p.b, .int .i64 p.c, .slice ad n cd] 40)) (bcells [p.k % 256]) 5)
        rw [hsz] at hnews
        clear hsz
        go_wp2_with (at_builtin; refine wpList_append_own _ rfl _ _ 25 rfl w.heap.size 5 i0 (.int .u8 0) 1 1 Try.underlying25 ei ez0 ez1 ez2 rfl (by decide) _ _ _ rfl ((O.out.alloc _).alloc _) ⟨wr.heap.size + 1, 0, none⟩ 1 1 _ rfl rfl hnews.out (bcells_one [p.k % 256]) (by unfold maxLen; omega) (by omega) (by simp; omega) ?_; intro v5 w5 o5 hg5 _; have X5 := Lib.hid (grown_box (blk_alloc XB.out (.cells #[.int .u8 (p.k % 256)] 5)) ((O.out.alloc _).alloc _) hg5); have B5 := Lib.hid (below_append BR.out O.out (((Keep.refl (fun _ => False) wr).alloc (.cells #[.int .i64 p.k, .int .i64 p.a, .int .i64 p.b, .int .i64 p.c, .slice ad n cd] 40)).alloc (.cells #[.int .u8 (p.k % 256)] 5)) hg5 BR.out.size); have O5 := Lib.hid o5; clear o5 hg5 x0 x1 x2 x3 x4; have x1 := blk_cell X5.out 1; have x2 := blk_cell X5.out 2; have x3 := blk_cell X5.out 3)
        generalize wr.heap.size = xb at X5 x1 x2 x3 ⊢
        go_loopw [4, 31] (fun ov iv wr => ∃ (j r : Nat), j ≤ 3 ∧ iv = .int .i64 j ∧ r = q + 1 + 8 * j ∧ wr.ownsRow w.heap.size 5 1 ov r (bcells (encTo l k ++ [p.k % 256] ++ numsTo p j)) ∧ wr.heap[xb]? = some (.cells #[.int .i64 p.k, .int .i64 p.a, .int .i64 p.b, .int .i64 p.c, .slice ad n cd] 40 (0, 0)) ∧ Below w.heap.size w wr) (fun _ iv _ => 3 - (intOf iv).toNat)
        case atStart => exact ⟨0, _, by omega, rfl, rfl, by rw [numsTo, List.append_nil, ← bcells_app]; exact O5.out, X5.out, B5.out⟩
        case round =>
          obtain ⟨j, r, hj, rfl, hr, hoA, hxA, hbA⟩ := hrel
          have HRR := Lib.hid hr
          have hrb : r ≤ 60100 := by omega
          clear hr
          have OA := Lib.hid hoA
          have XA := Lib.hid hxA
          have BA := Lib.hid hbA
          clear hoA hxA hbA x1 x2 x3
          by_cases hj3 : j < 3
          · have hjj : j = 0 ∨ j = 1 ∨ j = 2 := by omega
            rcases hjj with rfl | rfl | rfl
            · have wx := u64_wrap p.a
              have hN : 0 ≤ uns p.a ∧ uns p.a < 18446744073709551616 := by unfold uns; omega
              have HXN : Hid (numsTo p (0 + 1) = numsTo p 0 ++ numTo (uns p.a) 8) := Lib.hid rfl
              generalize uns p.a = N at wx hN HXN
              have hix : ∀ w : World, (Instr.index 43 (.agg #[.int .i64 p.a, .int .i64 p.b, .int .i64 p.c]) (.int .i64 0)).run Try.prog w = .ok (.int .i64 p.a) w := fun _ => by kernel_rfl
              go_wp2_with fail
              go_loopw [4, 34] (fun ov iv wr => ∃ (i s : Nat), i ≤ 8 ∧ iv = .int .i64 i ∧ s = r + i ∧ wr.ownsRow w.heap.size 5 1 ov s (bcells (encTo l k ++ [p.k % 256] ++ numsTo p 0 ++ numTo N i)) ∧ wr.heap[xb]? = some (.cells #[.int .i64 p.k, .int .i64 p.a, .int .i64 p.b, .int .i64 p.c, .slice ad n cd] 40 (0, 0)) ∧ Below w.heap.size w wr) (fun _ iv _ => 8 - (intOf iv).toNat)
              case atStart => exact ⟨0, _, by omega, rfl, rfl, by rw [numTo, List.append_nil]; exact OA.out, XA.out, BA.out⟩
              case round =>
                obtain ⟨i, s, hi, rfl, hs, hoB, hxB, hbB⟩ := hrel
                have HSS := Lib.hid hs
                have hsb : s ≤ 60200 := by omega
                clear hs
                have OB := Lib.hid hoB
                have XC := Lib.hid hxB
                have BC := Lib.hid hbB
                clear hoB hxB hbB
                by_cases hi8 : i < 8
                · have s1 : IntKind.i64.wrap (8 * (i : Int)) = 8 * (i : Int) := IntWalk.i64_in _ (by omega)
                  have s2 : N / 2 ^ (8 * (i : Int)).toNat = N / 256 ^ i := by rw [show (8 * (i : Int)).toNat = 8 * i from by omega]; exact shr_byte N i
                  have s4 : N / 2 ^ (8 * i) = N / 256 ^ i := shr_byte N i
                  have hto : Hid (numTo N (i + 1) = numTo N i ++ [N / 256 ^ i % 256]) := Lib.hid rfl
                  generalize N / 256 ^ i = X at s2 s4 hto
                  have s3 := u8_wrap X
                  have hzC := BC.out.size
                  have hnews3 := Lib.hid (new_cells wr (bcells [X % 256]) 5)
                  go_wp2_with (at_builtin; refine wpList_append_own _ rfl _ _ 25 rfl w.heap.size 5 i0 (.int .u8 0) 1 1 Try.underlying25 ei ez0 ez1 ez2 rfl (by decide) _ _ _ rfl (OB.out.alloc _) ⟨wr.heap.size, 0, none⟩ 1 1 _ rfl rfl hnews3.out (bcells_one [X % 256]) (by unfold maxLen; omega) (by omega) (by simp; omega) ?_; intro v6 w6 o6 hg6 _; have X6 := Lib.hid (grown_box (blk_alloc XC.out (.cells #[.int .u8 (X % 256)] 5)) (OB.out.alloc _) hg6); have B6 := Lib.hid (below_append BC.out OB.out ((Keep.refl (fun _ => False) wr).alloc (.cells #[.int .u8 (X % 256)] 5)) hg6 BC.out.size); have O6 := Lib.hid o6; clear o6 hg6)
                  go_roundw
                  case rel => exact ⟨_, _, _, _, _, _, _, _, _, _, _, _, _, _, _, ⟨i + 1, s + 1, hi8, by go_num, by have := HSS.out; omega, by rw [hto.out, ← List.append_assoc, ← bcells_app _ [X % 256]]; exact O6.out, X6.out, B6.out⟩, rfl⟩
                  case measure => simp [intOf]; omega
                · obtain rfl : i = 8 := by omega
                  go_wp2_with fail
                  go_roundw
                  case rel => exact ⟨0 + 1, s, by omega, by go_num, by have := HSS.out; have := HRR.out; omega, by rw [HXN.out, ← List.append_assoc]; exact OB.out, XC.out, BC.out⟩
                  case measure => simp [intOf]
            · have wx := u64_wrap p.b
              have hN : 0 ≤ uns p.b ∧ uns p.b < 18446744073709551616 := by unfold uns; omega
              have HXN : Hid (numsTo p (1 + 1) = numsTo p 1 ++ numTo (uns p.b) 8) := Lib.hid rfl
              generalize uns p.b = N at wx hN HXN
              have hix : ∀ w : World, (Instr.index 43 (.agg #[.int .i64 p.a, .int .i64 p.b, .int .i64 p.c]) (.int .i64 1)).run Try.prog w = .ok (.int .i64 p.b) w := fun _ => by kernel_rfl
              go_wp2_with fail
              go_loopw [4, 34] (fun ov iv wr => ∃ (i s : Nat), i ≤ 8 ∧ iv = .int .i64 i ∧ s = r + i ∧ wr.ownsRow w.heap.size 5 1 ov s (bcells (encTo l k ++ [p.k % 256] ++ numsTo p 1 ++ numTo N i)) ∧ wr.heap[xb]? = some (.cells #[.int .i64 p.k, .int .i64 p.a, .int .i64 p.b, .int .i64 p.c, .slice ad n cd] 40 (0, 0)) ∧ Below w.heap.size w wr) (fun _ iv _ => 8 - (intOf iv).toNat)
              case atStart => exact ⟨0, _, by omega, rfl, rfl, by rw [numTo, List.append_nil]; exact OA.out, XA.out, BA.out⟩
              case round =>
                obtain ⟨i, s, hi, rfl, hs, hoB, hxB, hbB⟩ := hrel
                have HSS := Lib.hid hs
                have hsb : s ≤ 60200 := by omega
                clear hs
                have OB := Lib.hid hoB
                have XC := Lib.hid hxB
                have BC := Lib.hid hbB
                clear hoB hxB hbB
                by_cases hi8 : i < 8
                · have s1 : IntKind.i64.wrap (8 * (i : Int)) = 8 * (i : Int) := IntWalk.i64_in _ (by omega)
                  have s2 : N / 2 ^ (8 * (i : Int)).toNat = N / 256 ^ i := by rw [show (8 * (i : Int)).toNat = 8 * i from by omega]; exact shr_byte N i
                  have s4 : N / 2 ^ (8 * i) = N / 256 ^ i := shr_byte N i
                  have hto : Hid (numTo N (i + 1) = numTo N i ++ [N / 256 ^ i % 256]) := Lib.hid rfl
                  generalize N / 256 ^ i = X at s2 s4 hto
                  have s3 := u8_wrap X
                  have hzC := BC.out.size
                  have hnews3 := Lib.hid (new_cells wr (bcells [X % 256]) 5)
                  go_wp2_with (at_builtin; refine wpList_append_own _ rfl _ _ 25 rfl w.heap.size 5 i0 (.int .u8 0) 1 1 Try.underlying25 ei ez0 ez1 ez2 rfl (by decide) _ _ _ rfl (OB.out.alloc _) ⟨wr.heap.size, 0, none⟩ 1 1 _ rfl rfl hnews3.out (bcells_one [X % 256]) (by unfold maxLen; omega) (by omega) (by simp; omega) ?_; intro v6 w6 o6 hg6 _; have X6 := Lib.hid (grown_box (blk_alloc XC.out (.cells #[.int .u8 (X % 256)] 5)) (OB.out.alloc _) hg6); have B6 := Lib.hid (below_append BC.out OB.out ((Keep.refl (fun _ => False) wr).alloc (.cells #[.int .u8 (X % 256)] 5)) hg6 BC.out.size); have O6 := Lib.hid o6; clear o6 hg6)
                  go_roundw
                  case rel => exact ⟨_, _, _, _, _, _, _, _, _, _, _, _, _, _, _, ⟨i + 1, s + 1, hi8, by go_num, by have := HSS.out; omega, by rw [hto.out, ← List.append_assoc, ← bcells_app _ [X % 256]]; exact O6.out, X6.out, B6.out⟩, rfl⟩
                  case measure => simp [intOf]; omega
                · obtain rfl : i = 8 := by omega
                  go_wp2_with fail
                  go_roundw
                  case rel => exact ⟨1 + 1, s, by omega, by go_num, by have := HSS.out; have := HRR.out; omega, by rw [HXN.out, ← List.append_assoc]; exact OB.out, XC.out, BC.out⟩
                  case measure => simp [intOf]
            · have wx := u64_wrap p.c
              have hN : 0 ≤ uns p.c ∧ uns p.c < 18446744073709551616 := by unfold uns; omega
              have HXN : Hid (numsTo p (2 + 1) = numsTo p 2 ++ numTo (uns p.c) 8) := Lib.hid rfl
              generalize uns p.c = N at wx hN HXN
              have hix : ∀ w : World, (Instr.index 43 (.agg #[.int .i64 p.a, .int .i64 p.b, .int .i64 p.c]) (.int .i64 2)).run Try.prog w = .ok (.int .i64 p.c) w := fun _ => by kernel_rfl
              go_wp2_with fail
              go_loopw [4, 34] (fun ov iv wr => ∃ (i s : Nat), i ≤ 8 ∧ iv = .int .i64 i ∧ s = r + i ∧ wr.ownsRow w.heap.size 5 1 ov s (bcells (encTo l k ++ [p.k % 256] ++ numsTo p 2 ++ numTo N i)) ∧ wr.heap[xb]? = some (.cells #[.int .i64 p.k, .int .i64 p.a, .int .i64 p.b, .int .i64 p.c, .slice ad n cd] 40 (0, 0)) ∧ Below w.heap.size w wr) (fun _ iv _ => 8 - (intOf iv).toNat)
              case atStart => exact ⟨0, _, by omega, rfl, rfl, by rw [numTo, List.append_nil]; exact OA.out, XA.out, BA.out⟩
              case round =>
                obtain ⟨i, s, hi, rfl, hs, hoB, hxB, hbB⟩ := hrel
                have HSS := Lib.hid hs
                have hsb : s ≤ 60200 := by omega
                clear hs
                have OB := Lib.hid hoB
                have XC := Lib.hid hxB
                have BC := Lib.hid hbB
                clear hoB hxB hbB
                by_cases hi8 : i < 8
                · have s1 : IntKind.i64.wrap (8 * (i : Int)) = 8 * (i : Int) := IntWalk.i64_in _ (by omega)
                  have s2 : N / 2 ^ (8 * (i : Int)).toNat = N / 256 ^ i := by rw [show (8 * (i : Int)).toNat = 8 * i from by omega]; exact shr_byte N i
                  have s4 : N / 2 ^ (8 * i) = N / 256 ^ i := shr_byte N i
                  have hto : Hid (numTo N (i + 1) = numTo N i ++ [N / 256 ^ i % 256]) := Lib.hid rfl
                  generalize N / 256 ^ i = X at s2 s4 hto
                  have s3 := u8_wrap X
                  have hzC := BC.out.size
                  have hnews3 := Lib.hid (new_cells wr (bcells [X % 256]) 5)
                  go_wp2_with (at_builtin; refine wpList_append_own _ rfl _ _ 25 rfl w.heap.size 5 i0 (.int .u8 0) 1 1 Try.underlying25 ei ez0 ez1 ez2 rfl (by decide) _ _ _ rfl (OB.out.alloc _) ⟨wr.heap.size, 0, none⟩ 1 1 _ rfl rfl hnews3.out (bcells_one [X % 256]) (by unfold maxLen; omega) (by omega) (by simp; omega) ?_; intro v6 w6 o6 hg6 _; have X6 := Lib.hid (grown_box (blk_alloc XC.out (.cells #[.int .u8 (X % 256)] 5)) (OB.out.alloc _) hg6); have B6 := Lib.hid (below_append BC.out OB.out ((Keep.refl (fun _ => False) wr).alloc (.cells #[.int .u8 (X % 256)] 5)) hg6 BC.out.size); have O6 := Lib.hid o6; clear o6 hg6)
                  go_roundw
                  case rel => exact ⟨_, _, _, _, _, _, _, _, _, _, _, _, _, _, _, ⟨i + 1, s + 1, hi8, by go_num, by have := HSS.out; omega, by rw [hto.out, ← List.append_assoc, ← bcells_app _ [X % 256]]; exact O6.out, X6.out, B6.out⟩, rfl⟩
                  case measure => simp [intOf]; omega
                · obtain rfl : i = 8 := by omega
                  go_wp2_with fail
                  go_roundw
                  case rel => exact ⟨2 + 1, s, by omega, by go_num, by have := HSS.out; have := HRR.out; omega, by rw [HXN.out, ← List.append_assoc]; exact OB.out, XC.out, BC.out⟩
                  case measure => simp [intOf]
          · obtain rfl : j = 3 := by omega
            have x4 := blk_cell XA.out 4
            have r1 : IntKind.u8.wrap (n : Int) = (n : Int) % 256 := u8_wrap _
            have r2 : (n : Int) / 2 ^ 8 = (n : Int) / 256 := rfl
            have r3 : IntKind.u8.wrap ((n : Int) / 256) = (n : Int) / 256 % 256 := u8_wrap _
            have hzA := BA.out.size
            have hnews2 := Lib.hid (new_cells wr (bcells [(n : Int) % 256, (n : Int) / 256 % 256]) 5)
            go_wp2_with (first
              | (at_builtin; refine wpList_append_own _ rfl _ _ 25 rfl w.heap.size 5 i0 (.int .u8 0) 1 1 Try.underlying25 ei ez0 ez1 ez2 rfl (by decide) _ _ _ rfl (OA.out.alloc _) ⟨wr.heap.size, 0, none⟩ 2 2 _ rfl rfl hnews2.out (bcells_one [(n : Int) % 256, (n : Int) / 256 % 256]) (by unfold maxLen; omega) (by omega) (by simp; omega) ?_; intro v7 w7 o7 hg7 _; have X7 := Lib.hid (grown_box (blk_alloc XA.out (.cells #[.int .u8 ((n : Int) % 256), .int .u8 ((n : Int) / 256 % 256)] 5)) (OA.out.alloc _) hg7); have B7 := Lib.hid (below_append BA.out OA.out ((Keep.refl (fun _ => False) wr).alloc (.cells #[.int .u8 ((n : Int) % 256), .int .u8 ((n : Int) / 256 % 256)] 5)) hg7 BA.out.size); have O7 := Lib.hid o7; clear o7 hg7 x4; have x4 := blk_cell X7.out 4; have hz7 := B7.out.size; have RD : Hid (ReadV w7 (.slice ad n cd) n (bcells p.d)) := Lib.hid (by have := lb_readV (HLB.out.keep B7.out); rw [← HNL.out] at this; exact this))
              | (at_builtin; refine wpList_append_list _ rfl (.tmp 60) (.tmp 62) 25 rfl w.heap.size 5 i0 (.int .u8 0) 1 1 Try.underlying25 ei ez0 ez1 ez2 rfl (by decide) _ _ _ rfl O7.out n (bcells p.d) RD.out (by rw [bcells_len, ← HNL.out]; omega) (bcells_one _) (by unfold maxLen; omega) (by omega) hz7 ?_; intro v8 w8 o8 hg8; have B8 := Lib.hid (below_append B7.out O7.out (Keep.refl _ _) hg8 B7.out.size); have O8 := Lib.hid o8; clear o8 hg8 x4))
            go_roundw
            case rel => exact ⟨k + 1, q + (27 + n), hlt, by go_num, by rw [HE.out, List.length_append, encO_len, ← HQ.out, ← HNL.out], by rw [HE.out, encO_eq, ← HNL.out]; have h := O8.out; simp only [bcells_app, List.append_assoc] at h ⊢; rw [show q + (27 + n) = r + 2 + n from by have := HRR.out; omega]; exact h, B8.out⟩
            case measure => simp [intOf]; omega
      · obtain rfl : k = l.length := by omega
        go_wp2_with fail
        go_ret2
        exact ⟨_, _, rfl, .inl ⟨HA.out, rfl, lb_of_own (by rw [← HQ.out]; exact O.out)⟩, BR.out⟩
  · have HA : Hid (¬ allMay l) := Lib.hid (fun e => by rw [allMayB_iff.2 e] at hab; cases hab)
    have HAB := Lib.hid hab
    clear hab
    go_enter Try.func10, Try.ntmps10
    go_wp2_with fail
    refine (contains_any w _ l H.out).mono ?_
    rw [HAB.out]
    rintro e w1 ⟨rfl, b1⟩
    have B1 := Lib.hid b1
    clear b1
    go_wp2_with fail
    go_ret2
    exact ⟨_, _, rfl, .inr ⟨HA.out, rfl, rfl⟩, B1.out⟩
end Go.Proofs.Ytamaocdchlioaaa
