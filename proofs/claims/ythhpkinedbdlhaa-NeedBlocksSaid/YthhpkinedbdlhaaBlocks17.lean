/- The law NeedBlocks. -/
import Derived.Test.YthhpkinedbdlhaaLaw17
import Derived.Test.YthhpkinedbdlhaaPure17
namespace Go.Proofs.Ythhpkinedbdlhaa
open Go.RowKit Go.Sort
set_option linter.unusedVariables false

theorem Try.infoB : (Try.prog.info? 4).map (fun i => (i.zero, i.size, i.bytes)) = some (some (.bool false), 1, 1) := by kernel_rfl
theorem make_bools (w : World) (n : Nat) (h : n ≤ 16) : ∃ cs : Array Value, (∀ (kl kc : IntKind), (Instr.makeSlice 33 (.int kl n) (.int kc n)).run Try.prog w = .ok (.slice (some ⟨w.heap.size, 0, none⟩) n n) (w.alloc (.cells cs 4))) ∧ LB (w.alloc (.cells cs 4)) (.slice (some ⟨w.heap.size, 0, none⟩) n n) (List.replicate n false) := by
  obtain ⟨i0, ei, ez0, ez1, ez2⟩ := info_parts Try.infoB
  refine ⟨madeCells #[.bool false] n, fun kl kc => ?_, ⟨_, n, by rw [List.length_replicate], by rw [List.length_replicate]; exact Nat.le_refl _, by unfold maxLen; omega, .inr ⟨_, 0, rfl, fun i hi => ?_⟩⟩⟩
  · have := run_make (P := Try.prog) w 33 4 i0 _ Try.underlying33 ei ez0 kl kc n n (by omega) (Int.le_refl _) (by rw [ez2]; omega) (by omega)
    rw [ez1] at this
    simpa [Value.cells] using this
  · rw [List.length_replicate] at hi
    rw [blk_cell (blk_new w (.cells (madeCells #[.bool false] n) 4))]
    simp [madeCells, hi, Nat.mod_one, List.getD]
theorem rep_snoc (n : Nat) (x : Int) : List.replicate n x ++ [x] = List.replicate (n + 1) x := by rw [List.replicate_succ']
theorem keepF_false (c : Cf) (n k : Nat) : keepF c (List.replicate n false) k = c.keep.getD k 0 := by
  unfold keepF
  rw [show (List.replicate n false).getD k false = false from by simp [List.getD, List.getElem?_replicate]; split <;> rfl]
  simp
theorem own_rep {w : World} {base n : Nat} {v : Value} {x : Int} (h : w.ownsRow base 3 1 v (n + 1) (icells (List.replicate n x) ++ [.int .i64 x])) : w.ownsRow base 3 1 v (n + 1) (icells (List.replicate (n + 1) x)) := by
  rw [← rep_snoc, show icells (List.replicate n x ++ [x]) = icells (List.replicate n x) ++ [.int .i64 x] from by simp [icells]]
  exact h
theorem lv_rep {w : World} {base n : Nat} {v : Value} {x : Int} (h : w.ownsRow base 3 1 v n (icells (List.replicate n x))) : LV 0 w v (List.replicate n x) :=
  lv_of_own (base := base) (by rw [List.length_replicate]; exact h) (Nat.zero_le _)
set_option maxRecDepth 100000 in
set_option maxHeartbeats 4000000 in
theorem lawBlocks (w : World) (v : Value) (c : Cf) (x : Int) (h : CV w v c) (hx : 0 ≤ x ∧ x ≤ 255) : Calls Try.prog 7 #[v, .int .u8 x] w fun e w' => e = .returned (.bool true) ∧ Below w.heap.size w w' := by
  obtain ⟨i0, ei, ez0, ez1, ez2⟩ := info_parts Try.infoI
  have HC := Lib.hid h
  obtain ⟨ac, cc, ak, ck, rfl, h1, h2⟩ := h
  have B0 := Lib.hid ((Below.refl w.heap.size w).alloc (Nat.le_refl _) (.cells #[.int .i64 c.size, .int .i64 c.pages, .slice ac c.classes.length cc, .slice ak c.keep.length ck, .int .i64 c.step, .int .i64 c.slots, .int .i64 c.gens, .int .i64 c.most] 24))
  have X0 := Lib.hid (blk_new w (.cells #[.int .i64 c.size, .int .i64 c.pages, .slice ac c.classes.length cc, .slice ak c.keep.length ck, .int .i64 c.step, .int .i64 c.slots, .int .i64 c.gens, .int .i64 c.most] 24))
  have hcap := h1.caps
  have hcap2 := h2.caps
  clear h1 h2
  have e1 : IntKind.i64.wrap x = x := IntWalk.i64_in _ (by omega)
  go_enter Try.func7, Try.ntmps7
  go_wp2_with fail
  refine (lawake _).mono ?_
  rintro e w1 ⟨rfl, b1⟩
  have B1 := Lib.hid (B0.out.trans (b1.mono B0.out.size))
  have X1 := Lib.hid (below_blk b1 X0.out (blk_lt X0.out))
  have x0 := blk_cell X1.out 0
  have x1 := blk_cell X1.out 1
  have x2 := blk_cell X1.out 2
  have x3 := blk_cell X1.out 3
  have x4 := blk_cell X1.out 4
  have x5 := blk_cell X1.out 5
  have x6 := blk_cell X1.out 6
  have x7 := blk_cell X1.out 7
  clear b1
  go_wp2_with fail
  refine (rmay03_any _ _ c (HC.out.below B1.out)).mono ?_
  rintro e w2 ⟨r, rfl, hr, b2⟩
  have B2 := Lib.hid (B1.out.trans (b2.mono B1.out.size))
  have X2 := Lib.hid (below_blk b2 X1.out (blk_lt X1.out))
  clear b2 x0 x1 x2 x3 x4 x5 x6 x7
  by_cases hr0 : r = 0
  · have ok := hr hr0
    subst hr0
    clear hr
    have hpos := ok.pos
    obtain ⟨k, hk⟩ : ∃ k : Nat, x.tmod (c.classes.length : Int) = k := ⟨(x.tmod (c.classes.length : Int)).toNat, by have := Int.emod_nonneg x (b := (c.classes.length : Int)) (by omega); rw [Int.tmod_eq_emod_of_nonneg hx.1]; omega⟩
    have hkl : k < c.classes.length := by
      have := Int.emod_lt_of_pos x (b := (c.classes.length : Int)) (by omega)
      rw [Int.tmod_eq_emod_of_nonneg hx.1] at hk
      omega
    have e2 : IntKind.i64.wrap (k : Int) = k := IntWalk.i64_in _ (by omega)
    have hne : ((c.classes.length : Int) == 0) = false := beq_eq_false_iff_ne.2 (by omega)
    obtain ⟨gl, off, c', hv, hel⟩ := (CV.lv HC.out).elem hkl
    cases hv
    have z0 := hel w2 B2.out
    clear hel
    have HOK := Lib.hid ok
    have hs2 := ok.size2
    have HREP := Lib.hid (fun (hm : c.classes.getD k 0 ≤ c.most) (n : Nat) => rep_pages ok hkl hm n)
    obtain ⟨nb, hnb⟩ : ∃ nb : Nat, (nb : Int) = blocksS c k := ⟨(blocksS c k).toNat, by have := (blocks_pos ok hkl).1; omega⟩
    have hnb1 : 1 ≤ nb ∧ nb ≤ 512 := by have := blocks_pos ok hkl; omega
    have HNB := Lib.hid hnb
    have hcl := (mayB_iff.1 ok.classes).2.2 k hkl
    unfold okC at hcl
    have hxr : 8 ≤ c.classes.getD k 0 ∧ c.classes.getD k 0 ≤ 4096 := by omega
    generalize c.classes.getD k 0 = sz at z0 HREP hxr
    clear hcl hnb ok
    have y0 := blk_cell X2.out 0
    have y1 := blk_cell X2.out 1
    have y2 := blk_cell X2.out 2
    have y3 := blk_cell X2.out 3
    have y4 := blk_cell X2.out 4
    have y5 := blk_cell X2.out 5
    have y6 := blk_cell X2.out 6
    have y7 := blk_cell X2.out 7
    by_cases hm : c.most < sz
    · go_wp2_with fail
      go_ret
      exact ⟨rfl, B2.out⟩
    · have HRP := Lib.hid (HREP.out (by omega))
      have hm' : sz ≤ c.most := by omega
      clear HREP hm
      have HRB := Lib.hid (fun W (b : Below w2.heap.size w2 W) => (rblocks_any W _ c k ((HC.out.below B2.out).below b) (by omega)).mono fun e w' hh => (show e = .returned (.int .i64 nb) ∧ Below W.heap.size W w' from ⟨by rw [hh.1, HNB.out], hh.2⟩))
      go_wp2_with fail
      go_loopw [8, 9] (fun vl i wr => ∃ j : Nat, j ≤ nb ∧ i = .int .i64 j ∧ wr.ownsRow w2.heap.size 3 1 vl j (icells (List.replicate j sz)) ∧ Below w2.heap.size w2 wr) (fun _ i _ => nb - (intOf i).toNat)
      case atStart => exact ⟨0, Nat.zero_le _, rfl, ⟨rfl, .inl ⟨rfl, rfl⟩⟩, Below.refl _ _⟩
      case round =>
        obtain ⟨j, hj, rfl, ho, br⟩ := hrel
        have O3 := Lib.hid ho
        have Q3 := Lib.hid br
        have X3 := Lib.hid (below_blk br X2.out (blk_lt X2.out))
        have B3 := Lib.hid (B2.out.trans (br.mono B2.out.size))
        clear ho br y0 y1 y2 y3 y4 y5 y6 y7 z0
        have y0 := blk_cell X3.out 0
        have y1 := blk_cell X3.out 1
        have y2 := blk_cell X3.out 2
        have y3 := blk_cell X3.out 3
        have y4 := blk_cell X3.out 4
        have y5 := blk_cell X3.out 5
        have y6 := blk_cell X3.out 6
        have y7 := blk_cell X3.out 7
        by_cases hlt : j < nb
        · go_wp2_with fail
          refine (HRB.out wr Q3.out).mono ?_
          rintro e w4 ⟨rfl, b4⟩
          have O4 := Lib.hid (own_below O3.out b4)
          have Q4 := Lib.hid (Q3.out.trans (b4.mono Q3.out.size))
          clear b4 y0 y1 y2 y3 y4 y5 y6 y7
          have hnews := Lib.hid (new_cells w4 (icells [sz]) 3)
          go_wp2_with (at_builtin; refine wpList_append_own _ rfl _ _ 22 rfl w2.heap.size 3 i0 (.int .i64 0) 1 8 Try.underlying22 ei ez0 ez1 ez2 rfl (by decide) _ _ _ rfl (O4.out.alloc _) ⟨w4.heap.size, 0, none⟩ 1 1 _ rfl rfl hnews.out (icells_one [sz]) (by unfold maxLen; omega) (by omega) (by have := Q4.out.size; simp; omega) ?_; intro v5 w5 hown5 hgr5 _)
          have b5 := below_append Q4.out O4.out (((Keep.refl _ w4).alloc (.cells #[.int .i64 sz] 3))) hgr5 Q4.out.size
          go_roundw
          case rel => exact ⟨j + 1, hlt, by go_num, own_rep hown5, b5⟩
          case measure => simp [intOf]; omega
        · obtain rfl : j = nb := by omega
          have hvs := own_slice O3.out
          obtain ⟨al, cl, rfl, hncl⟩ := hvs
          have LL := Lib.hid (lv_rep O3.out)
          have hclm := LL.out.caps.2.2
          have R1 := HRP.out j
          have R2 := HRP.out (j + 1)
          have M1 := manyS_self (b := (j : Int)) (by omega)
          rw [← HNB.out] at R1 R2
          rw [show ((j + 1 : Nat) : Int) = (j : Int) + 1 from by omega, M1.2] at R2
          rw [M1.1] at R1
          have HR1 := Lib.hid R1
          have HR2 := Lib.hid R2
          clear R1 R2 M1
          go_wp2_with fail
          refine (HRB.out wr Q3.out).mono ?_
          rintro e w4 ⟨rfl, b4⟩
          have O4 := Lib.hid (own_below O3.out b4)
          have Q4 := Lib.hid (Q3.out.trans (b4.mono Q3.out.size))
          have X4 := Lib.hid (below_blk b4 X3.out (blk_lt X3.out))
          have B4 := Lib.hid (B3.out.trans (b4.mono B3.out.size))
          clear b4 y0 y1 y2 y3 y4 y5 y6 y7
          have y0 := blk_cell X4.out 0
          have y1 := blk_cell X4.out 1
          have y2 := blk_cell X4.out 2
          have y3 := blk_cell X4.out 3
          have y4 := blk_cell X4.out 4
          have y5 := blk_cell X4.out 5
          have y6 := blk_cell X4.out 6
          have y7 := blk_cell X4.out 7
          go_wp2_with fail
          refine (pages_any _ _ _ c (List.replicate j sz) (HC.out.below B4.out) HOK.out (lv_rep O4.out) (by rw [List.length_replicate]; omega)).mono ?_
          rw [HR1.out.1, HR1.out.2.2.1]
          rintro e w5 ⟨rfl, b5⟩
          have B5 := Lib.hid (B4.out.trans (b5.mono B4.out.size))
          have X5 := Lib.hid (below_blk b5 X4.out (blk_lt X4.out))
          have O5 := Lib.hid (own_below O4.out b5)
          have Q5 := Lib.hid (Q4.out.trans (b5.mono Q4.out.size))
          clear b5 y0 y1 y2 y3 y4 y5 y6 y7
          have y0 := blk_cell X5.out 0
          have y1 := blk_cell X5.out 1
          have y2 := blk_cell X5.out 2
          have y3 := blk_cell X5.out 3
          have y4 := blk_cell X5.out 4
          have y5 := blk_cell X5.out 5
          have y6 := blk_cell X5.out 6
          have y7 := blk_cell X5.out 7
          obtain ⟨cs, hmk, hlb⟩ := make_bools w5 c.classes.length (by omega)
          have HLB := Lib.hid hlb
          have bm := (Below.refl w5.heap.size w5).alloc (Nat.le_refl _) (.cells cs 4)
          have O6 := Lib.hid (own_below O5.out bm)
          have Q6 := Lib.hid (Q5.out.trans (bm.mono Q5.out.size))
          have X6 := Lib.hid (below_blk bm X5.out (blk_lt X5.out))
          have B6 := Lib.hid (B5.out.trans (bm.mono B5.out.size))
          clear bm hlb
          have t0 := blk_cell X6.out 0
          have t1 := blk_cell X6.out 1
          have t2 := blk_cell X6.out 2
          have t3 := blk_cell X6.out 3
          have t4 := blk_cell X6.out 4
          have t5 := blk_cell X6.out 5
          have t6 := blk_cell X6.out 6
          have t7 := blk_cell X6.out 7
          have hmE : mostE c (List.replicate j sz) (List.replicate c.classes.length false) = 0 := by
            unfold mostE
            rw [if_neg (by have := HR1.out.2.2.2.1; omega), if_neg (by simp)]
          have hmN : mostN c (List.replicate j sz) (List.replicate c.classes.length false) = 1 + sumI (fun k => c.keep.getD k 0) c.classes.length := by
            unfold mostN
            rw [if_neg (by have := HR1.out.2.2.2.1; omega), if_neg (by simp), HR1.out.2.2.2.2, sumI_congr _ (fun k _ => keepF_false c c.classes.length k)]
          have HME := Lib.hid hmE
          have HMN := Lib.hid hmN
          have HKR := Lib.hid (fun jj (hj : jj ≤ c.classes.length) => sumI_bounds (f := fun k => c.keep.getD k 0) (M := 1024) (n := c.classes.length) (fun i hi => HOK.out.keep i (by have := HOK.out.keepn; omega)) jj hj)
          have HKS := Lib.hid (fun jj => (show sumI (fun k => c.keep.getD k 0) (jj + 1) = sumI (fun k => c.keep.getD k 0) jj + c.keep.getD jj 0 from rfl))
          have HK0 : Hid (sumI (fun k => c.keep.getD k 0) 0 = 0) := Lib.hid rfl
          generalize sumI (fun k => c.keep.getD k 0) = KF at HMN HKR HKS HK0 hmN
          have hkf := HKR.out c.classes.length (Nat.le_refl _)
          clear hmE hmN
          go_wp2_with fail
          refine (most_any _ _ _ _ c (List.replicate j sz) (List.replicate c.classes.length false) (HC.out.below B6.out) HOK.out (lv_rep O6.out) (by rw [List.length_replicate]; omega) HLB.out).mono ?_
          rw [HME.out, HMN.out]
          rintro e w7 ⟨rfl, b7⟩
          have O7 := Lib.hid (own_below O6.out b7)
          have Q7 := Lib.hid (Q6.out.trans (b7.mono Q6.out.size))
          have X7 := Lib.hid (below_blk b7 X6.out (blk_lt X6.out))
          have B7 := Lib.hid (B6.out.trans (b7.mono B6.out.size))
          clear b7 hmk y0 y1 y2 y3 y4 y5 y6 y7 t0 t1 t2 t3 t4 t5 t6 t7
          have y0 := blk_cell X7.out 0
          have y1 := blk_cell X7.out 1
          have y2 := blk_cell X7.out 2
          have y3 := blk_cell X7.out 3
          have y4 := blk_cell X7.out 4
          have y5 := blk_cell X7.out 5
          have y6 := blk_cell X7.out 6
          have y7 := blk_cell X7.out 7
          go_wp2_with fail
          refine (live_any _ _ _ c (List.replicate j sz) k (HC.out.below B7.out) (lv_rep O7.out) (by rw [List.length_replicate]; omega)).mono ?_
          rw [HR1.out.2.1]
          rintro e w8 ⟨rfl, b8⟩
          have B8 := Lib.hid (B7.out.trans (b8.mono B7.out.size))
          have X8 := Lib.hid (below_blk b8 X7.out (blk_lt X7.out))
          have O8 := Lib.hid (own_below O7.out b8)
          have Q8 := Lib.hid (Q7.out.trans (b8.mono Q7.out.size))
          clear b8 y0 y1 y2 y3 y4 y5 y6 y7
          have hnews := Lib.hid (new_cells w8 (icells [sz]) 3)
          go_wp2_with (at_builtin; refine wpList_append_own _ rfl _ _ 22 rfl w2.heap.size 3 i0 (.int .i64 0) 1 8 Try.underlying22 ei ez0 ez1 ez2 rfl (by decide) _ _ _ rfl (O8.out.alloc _) ⟨w8.heap.size, 0, none⟩ 1 1 _ rfl rfl hnews.out (icells_one [sz]) (by unfold maxLen; omega) (by omega) (by have := Q8.out.size; simp; omega) ?_; intro v9 w9 hown9 hgr9 _; have Q9 := Lib.hid (below_append Q8.out O8.out (((Keep.refl _ w8).alloc (.cells #[.int .i64 sz] 3))) hgr9 Q8.out.size); have X9 := Lib.hid (below_blk Q9.out X2.out (blk_lt X2.out)); have B9 := Lib.hid (B2.out.trans (Q9.out.mono B2.out.size)); have O9 := Lib.hid (own_rep hown9); clear hown9 hgr9; have u0 := blk_cell X9.out 0; have u1 := blk_cell X9.out 1; have u2 := blk_cell X9.out 2; have u3 := blk_cell X9.out 3; have u4 := blk_cell X9.out 4; have u5 := blk_cell X9.out 5; have u6 := blk_cell X9.out 6; have u7 := blk_cell X9.out 7)
          refine (pages_any _ _ _ c (List.replicate (j + 1) sz) (HC.out.below B9.out) HOK.out (lv_rep O9.out) (by rw [List.length_replicate]; omega)).mono ?_
          rw [HR2.out.1, HR2.out.2.2.1]
          rintro e w10 ⟨rfl, b10⟩
          have X10 := Lib.hid (below_blk b10 X9.out (blk_lt X9.out))
          have B10 := Lib.hid (B9.out.trans (b10.mono B9.out.size))
          clear b10 u0 u1 u2 u3 u4 u5 u6 u7
          go_wp2_with fail
          go_loopw [19, 20] (fun m i wr => ∃ jj : Nat, jj ≤ c.classes.length ∧ i = .int .i64 jj ∧ m = .int .i64 (KF jj) ∧ Hid (Below w.heap.size w wr) ∧ Hid (wr.heap[w.heap.size]? = some (.cells #[.int .i64 c.size, .int .i64 c.pages, .slice (some ⟨gl, off, none⟩) c.classes.length cc, .slice ak c.keep.length ck, .int .i64 c.step, .int .i64 c.slots, .int .i64 c.gens, .int .i64 c.most] 24 (0, 0)))) (fun _ i _ => c.classes.length - (intOf i).toNat)
          case atStart => exact ⟨0, Nat.zero_le _, rfl, by rw [HK0.out], B10, X10⟩
          case round =>
            obtain ⟨jj, hjj, rfl, rfl, BR, HX⟩ := hrel
            have t3 := blk_cell HX.out 3
            have hkn := HOK.out.keepn
            rw [hkn] at t3
            by_cases hlt2 : jj < c.classes.length
            · have E1 := HC.out.lk.elem (k := jj) (by omega)
              obtain ⟨gk, offk, ck', hv, hxk⟩ := E1
              cases hv
              have z1 := hxk wr BR.out
              have hkr := HOK.out.keep jj (by omega)
              have hkf2 := HKR.out jj hjj
              have HS := Lib.hid (HKS.out jj)
              generalize c.keep.getD jj 0 = kx at z1 hkr HS
              generalize KF jj = g at hkf2 HS ⊢
              have hkf3 : 0 ≤ g ∧ g ≤ 17000 := by omega
              clear hxk hkn hkf2
              go_wp2_with fail
              go_roundw
              case rel => exact ⟨jj + 1, hlt2, by go_num, by rw [HS.out], BR, HX⟩
              case measure => simp [intOf]; omega
            · obtain rfl : jj = c.classes.length := by omega
              have hkf3 : 0 ≤ KF c.classes.length ∧ KF c.classes.length ≤ 17000 := by omega
              generalize KF c.classes.length = g at hkf3 ⊢
              clear hkn hkf
              go_wp2_with fail
              go_ret
              exact ⟨rfl, BR.out⟩
  · go_wp2_with fail
    go_ret
    exact ⟨rfl, B2.out⟩
end Go.Proofs.Ythhpkinedbdlhaa
