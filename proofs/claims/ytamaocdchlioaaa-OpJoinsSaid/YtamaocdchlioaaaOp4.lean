/- An op's bytes (almeryref19.one). -/
import Derived.Test.YtamaocdchlioaaaOp3
namespace Go.Proofs.Ytamaocdchlioaaa
open Go.RowKit
set_option linter.unusedVariables false

def enc (k a b c : Int) (d : List Int) : List Int := [k % 256] ++ numB a ++ numB b ++ numB c ++ [(d.length : Int) % 256, (d.length : Int) / 256 % 256] ++ d
theorem own_oneB (w : World) (B : Nat) (x : Int) (hb : B ≤ w.heap.size) : (w.alloc (.cells #[.int .u8 x] 5)).ownsRow B 5 1 (.slice (some ⟨w.heap.size, 0, none⟩) 1 1) 1 (bcells [x]) :=
  ⟨rfl, .inr ⟨w.heap.size, 1, #[.int .u8 x], rfl, hb, blk_new _ _, Nat.le_refl _, by unfold maxLen; omega, rfl, rfl⟩⟩
theorem numB_len (n : Int) : (numB n).length = 8 := numTo_len _ 8
theorem num_len8 {w : World} {v : Value} {n : Int} (h : LB w v (numB n)) : ReadV w v 8 (bcells (numB n)) := by
  have := lb_readV h
  rwa [numB_len] at this
/-- the row of bytes grown: what stays -/
theorem grown_row {w wA wB : World} {B x : Nat} {v : Value} {n : Nat} {xs : List Value} {o : Obj} (hB : B ≤ w.heap.size + 1) (hx : wA.heap[w.heap.size]? = some o) (b : Below w.heap.size w wA) (ho : wA.ownsRow (w.heap.size + 1) 5 1 v n xs) (hg : wA.grownBy wB v.ownBlock) : wB.heap[w.heap.size]? = some o ∧ Below w.heap.size w wB := by
  have k := keep_of_grown hg
  have hne : ∀ g, v.ownBlock = some g → w.heap.size + 1 ≤ g := fun g e => by
    obtain ⟨_, ⟨rfl, _⟩ | ⟨g', cap, cur, rfl, hb, _⟩⟩ := ho
    · cases e
    · have he : g' = g := Option.some.inj e
      omega
  exact ⟨k.blk hx (fun e => by have := hne _ e; omega), below_keep b k b.size (fun i hi => by have := hne _ hi; omega)⟩
set_option maxHeartbeats 2000000 in
theorem one_any (w : World) (k a b c : Int) (ad : Option Addr) (n cap : Nat) (d : List Int) (hd : LB w (.slice ad n cap) d) (hn : n = d.length) (hn2 : n ≤ 65535) : Calls Try.prog 19 #[.agg #[.int .i64 k, .int .i64 a, .int .i64 b, .int .i64 c, .slice ad n cap]] w fun e w' => ∃ v, e = .returned v ∧ LB w' v (enc k a b c d) ∧ Below w.heap.size w w' := by
  obtain ⟨i0, ei, ez0, ez1, ez2⟩ := info_parts Try.infoB
  have HD := Lib.hid hd
  have HE : Hid (enc k a b c d = [k % 256] ++ numB a ++ numB b ++ numB c ++ [(n : Int) % 256, (n : Int) / 256 % 256] ++ d) := Lib.hid (by rw [hn]; rfl)
  have HN := Lib.hid hn
  clear hd hn
  have wk := u8_wrap k
  have r1 : (n : Int).tmod 256 = (n : Int) % 256 := Int.tmod_eq_emod_of_nonneg (by omega)
  have r2 : (n : Int).tdiv 256 = (n : Int) / 256 := Int.tdiv_eq_ediv_of_nonneg (by omega)
  have r3 : IntKind.u8.wrap ((n : Int) % 256) = (n : Int) % 256 := by rw [u8_wrap]; omega
  have r4 : IntKind.u8.wrap ((n : Int) / 256) = (n : Int) / 256 % 256 := u8_wrap _
  have r5 : IntKind.i64.wrap ((n : Int) % 256) = (n : Int) % 256 := IntWalk.i64_in _ (by omega)
  have r6 : IntKind.i64.wrap ((n : Int) / 256) = (n : Int) / 256 := IntWalk.i64_in _ (by omega)
  have X0 := Lib.hid (blk_alloc (blk_new w (.cells #[.int .i64 k, .int .i64 a, .int .i64 b, .int .i64 c, .slice ad n cap] 40)) (.cells #[.int .u8 (k % 256)] 5))
  have B0 := Lib.hid (((Below.refl w.heap.size w).alloc (Nat.le_refl _) (.cells #[.int .i64 k, .int .i64 a, .int .i64 b, .int .i64 c, .slice ad n cap] 40)).alloc (by simp) (.cells #[.int .u8 (k % 256)] 5))
  have O0 : Hid (((w.alloc (.cells #[.int .i64 k, .int .i64 a, .int .i64 b, .int .i64 c, .slice ad n cap] 40)).alloc (.cells #[.int .u8 (k % 256)] 5)).ownsRow (w.heap.size + 1) 5 1 (.slice (some ⟨w.heap.size + 1, 0, none⟩) 1 1) 1 (bcells [k % 256])) := Lib.hid (by have := own_oneB (w.alloc (.cells #[.int .i64 k, .int .i64 a, .int .i64 b, .int .i64 c, .slice ad n cap] 40)) (w.heap.size + 1) (k % 256) (by simp); simpa using this)
  go_enter Try.func19, Try.ntmps19
  go_wp2_with fail
  refine (num_any _ a).mono ?_
  rintro e w1 ⟨v1, rfl, l1, b1⟩
  have X1 := Lib.hid (below_blk b1 X0.out (blk_lt X0.out))
  have B1 := Lib.hid (B0.out.trans (b1.mono B0.out.size))
  have O1 := Lib.hid (own_below O0.out b1)
  have L1 := Lib.hid (num_len8 l1)
  have hz1 := blk_lt X1.out
  clear l1 b1
  have z0 := blk_cell X1.out 0
  have z1 := blk_cell X1.out 1
  have z2 := blk_cell X1.out 2
  have z3 := blk_cell X1.out 3
  have z4 := blk_cell X1.out 4
  go_wp2_with (at_builtin; refine wpList_append_list _ rfl (.tmp 8) (.tmp 11) 25 rfl (w.heap.size + 1) 5 i0 (.int .u8 0) 1 1 Try.underlying25 ei ez0 ez1 ez2 rfl (by decide) _ 1 _ rfl O1.out 8 (bcells (numB a)) L1.out (by rw [bcells_len, numB_len]) (bcells_one _) (by unfold maxLen; omega) (by omega) (by have := hz1; simp at this ⊢; omega) ?_; intro v3 w3 o3 hg3; have X3 := Lib.hid (grown_row (x := 0) (Nat.le_refl _) X1.out B1.out O1.out hg3).1; have B3 := Lib.hid (grown_row (x := 0) (Nat.le_refl _) X1.out B1.out O1.out hg3).2; have O3 := Lib.hid o3; clear o3 hg3 z0 z1 z2 z3 z4; have z0 := blk_cell X3.out 0; have z1 := blk_cell X3.out 1; have z2 := blk_cell X3.out 2; have z3 := blk_cell X3.out 3; have z4 := blk_cell X3.out 4)
  refine (num_any _ b).mono ?_
  rintro e w4 ⟨v4, rfl, l4, b4⟩
  have X4 := Lib.hid (below_blk b4 X3.out (blk_lt X3.out))
  have B4 := Lib.hid (B3.out.trans (b4.mono B3.out.size))
  have O4 := Lib.hid (own_below O3.out b4)
  have L4 := Lib.hid (num_len8 l4)
  have hz4 := blk_lt X4.out
  clear l4 b4
  clear z0 z1 z2 z3 z4
  have z0 := blk_cell X4.out 0
  have z1 := blk_cell X4.out 1
  have z2 := blk_cell X4.out 2
  have z3 := blk_cell X4.out 3
  have z4 := blk_cell X4.out 4
  go_wp2_with (at_builtin; refine wpList_append_list _ rfl (.tmp 13) (.tmp 16) 25 rfl (w.heap.size + 1) 5 i0 (.int .u8 0) 1 1 Try.underlying25 ei ez0 ez1 ez2 rfl (by decide) _ 9 _ rfl O4.out 8 (bcells (numB b)) L4.out (by rw [bcells_len, numB_len]) (bcells_one _) (by unfold maxLen; omega) (by omega) (by have := hz4; simp at this ⊢; omega) ?_; intro v6 w6 o6 hg6; have X6 := Lib.hid (grown_row (x := 0) (Nat.le_refl _) X4.out B4.out O4.out hg6).1; have B6 := Lib.hid (grown_row (x := 0) (Nat.le_refl _) X4.out B4.out O4.out hg6).2; have O6 := Lib.hid o6; clear o6 hg6 z0 z1 z2 z3 z4; have z0 := blk_cell X6.out 0; have z1 := blk_cell X6.out 1; have z2 := blk_cell X6.out 2; have z3 := blk_cell X6.out 3; have z4 := blk_cell X6.out 4)
  refine (num_any _ c).mono ?_
  rintro e w7 ⟨v7, rfl, l7, b7⟩
  have X7 := Lib.hid (below_blk b7 X6.out (blk_lt X6.out))
  have B7 := Lib.hid (B6.out.trans (b7.mono B6.out.size))
  have O7 := Lib.hid (own_below O6.out b7)
  have L7 := Lib.hid (num_len8 l7)
  have hz7 := blk_lt X7.out
  clear l7 b7
  clear z0 z1 z2 z3 z4
  have z0 := blk_cell X7.out 0
  have z1 := blk_cell X7.out 1
  have z2 := blk_cell X7.out 2
  have z3 := blk_cell X7.out 3
  have z4 := blk_cell X7.out 4
  go_wp2_with (first | (at_builtin; refine wpList_append_list _ rfl (.tmp 18) (.tmp 21) 25 rfl (w.heap.size + 1) 5 i0 (.int .u8 0) 1 1 Try.underlying25 ei ez0 ez1 ez2 rfl (by decide) _ 17 _ rfl O7.out 8 (bcells (numB c)) L7.out (by rw [bcells_len, numB_len]) (bcells_one _) (by unfold maxLen; omega) (by omega) (by have := hz7; simp at this ⊢; omega) ?_; intro v9 w9 o9 hg9; have X9 := Lib.hid (grown_row (x := 0) (Nat.le_refl _) X7.out B7.out O7.out hg9).1; have B9 := Lib.hid (grown_row (x := 0) (Nat.le_refl _) X7.out B7.out O7.out hg9).2; have O9 := Lib.hid o9; clear o9 hg9 z0 z1 z2 z3 z4; have z0 := blk_cell X9.out 0; have z1 := blk_cell X9.out 1; have z2 := blk_cell X9.out 2; have z3 := blk_cell X9.out 3; have z4 := blk_cell X9.out 4; have hz9 := blk_lt X9.out; have hnews := Lib.hid (new_cells w9 (bcells [(n : Int) % 256, (n : Int) / 256 % 256]) 5)) | (at_builtin; refine wpList_append_own _ rfl _ _ 25 rfl (w.heap.size + 1) 5 i0 (.int .u8 0) 1 1 Try.underlying25 ei ez0 ez1 ez2 rfl (by decide) _ _ _ rfl (O9.out.alloc _) ⟨w9.heap.size, 0, none⟩ 2 2 _ rfl rfl hnews.out (bcells_one [(n : Int) % 256, (n : Int) / 256 % 256]) (by unfold maxLen; omega) (by omega) (by simp; omega) ?_; intro v10 w10 o10 hg10 _; have X10 := Lib.hid (grown_row (x := 0) (Nat.le_refl _) (blk_alloc X9.out (.cells #[.int .u8 ((n : Int) % 256), .int .u8 ((n : Int) / 256 % 256)] 5)) (B9.out.alloc B9.out.size (.cells #[.int .u8 ((n : Int) % 256), .int .u8 ((n : Int) / 256 % 256)] 5)) (O9.out.alloc (.cells #[.int .u8 ((n : Int) % 256), .int .u8 ((n : Int) / 256 % 256)] 5)) hg10).1; have B10 := Lib.hid (grown_row (x := 0) (Nat.le_refl _) (blk_alloc X9.out (.cells #[.int .u8 ((n : Int) % 256), .int .u8 ((n : Int) / 256 % 256)] 5)) (B9.out.alloc B9.out.size (.cells #[.int .u8 ((n : Int) % 256), .int .u8 ((n : Int) / 256 % 256)] 5)) (O9.out.alloc (.cells #[.int .u8 ((n : Int) % 256), .int .u8 ((n : Int) / 256 % 256)] 5)) hg10).2; have O10 := Lib.hid o10; clear o10 hg10 z0 z1 z2 z3 z4; have z4 := blk_cell X10.out 4; have hz10 := blk_lt X10.out; have RD : Hid (ReadV w10 (.slice ad n cap) n (bcells d)) := Lib.hid (by have := lb_readV (HD.out.keep B10.out); rw [← HN.out] at this; exact this)) | (at_builtin; refine wpList_append_list _ rfl (.tmp 36) (.tmp 38) 25 rfl (w.heap.size + 1) 5 i0 (.int .u8 0) 1 1 Try.underlying25 ei ez0 ez1 ez2 rfl (by decide) _ _ _ rfl O10.out n (bcells d) RD.out (by rw [bcells_len, ← HN.out]; omega) (bcells_one _) (by unfold maxLen; omega) (by omega) (by have := hz10; simp at this ⊢; omega) ?_; intro v11 w11 o11 hg11; have B11 := Lib.hid (grown_row (x := 0) (Nat.le_refl _) X10.out B10.out O10.out hg11).2; have O11 := Lib.hid o11; clear o11 hg11 z4))
  go_ret
  refine ⟨_, rfl, ?_, B11.out⟩
  rw [HE.out]
  refine lb_of_own (base := w.heap.size + 1) ?_
  have h := O11.out
  simp only [bcells_app] at h
  have hl : ([k % 256] ++ numB a ++ numB b ++ numB c ++ [(n : Int) % 256, (n : Int) / 256 % 256] ++ d).length = 17 + 8 + 2 + n := by simp only [List.length_append, numB_len, List.length_cons, List.length_nil, ← HN.out]
  rw [hl]
  exact h
end Go.Proofs.Ytamaocdchlioaaa
