/- need's Most and the reference's. -/
import Derived.Test.YthhpkinedbdlhaaNeed3
namespace Go.Proofs.Ythhpkinedbdlhaa
open Go.RowKit Go.Sort
set_option linter.unusedVariables false

/-- a list of bools that is read -/
def LB (w : World) (v : Value) (l : List Bool) : Prop := ∃ (a : Option Addr) (c : Nat), v = .slice a l.length c ∧ l.length ≤ c ∧ c ≤ maxLen ∧ (l.length = 0 ∨ ∃ b off, a = some ⟨b, off, none⟩ ∧ ∀ i, i < l.length → w.cell? ⟨b, off + i, none⟩ = some (.bool (l.getD i false)))
theorem LB.keep {w w' : World} {v : Value} {l : List Bool} (h : LB w v l) (k : Below w.heap.size w w') : LB w' v l := by
  obtain ⟨a, c, h1, h2, h3, h4⟩ := h
  refine ⟨a, c, h1, h2, h3, ?_⟩
  rcases h4 with h | ⟨b, off, ha, h⟩
  · exact .inl h
  · exact .inr ⟨b, off, ha, fun i hi => (k.cell (p := ⟨b, off + i, none⟩) (World.block_lt_of_cell? w _ (h i hi))).trans (h i hi)⟩
theorem LB.elem {w : World} {v : Value} {l : List Bool} (h : LB w v l) {k : Nat} (hk : k < l.length) : ∃ b off c, v = .slice (some ⟨b, off, none⟩) l.length c ∧ ∀ wr, Below w.heap.size w wr → wr.cell? ⟨b, off + k, none⟩ = some (.bool (l.getD k false)) := by
  obtain ⟨a, c, rfl, _, _, h4⟩ := h
  rcases h4 with h | ⟨b, off, rfl, h⟩
  · omega
  · exact ⟨b, off, c, rfl, fun wr br => (br.cell (p := ⟨b, off + k, none⟩) (World.block_lt_of_cell? w _ (h k hk))).trans (h k hk)⟩

def keepF (c : Cf) (mv : List Bool) (k : Nat) : Int := c.keep.getD k 0 + if mv.getD k false then 1 else 0
def mostE (c : Cf) (l : List Int) (mv : List Bool) : Int := if 0 < badS c l then 3 else if mv.length ≠ c.classes.length then 1 else 0
def mostN (c : Cf) (l : List Int) (mv : List Bool) : Int := if 0 < badS c l then 0 else if mv.length ≠ c.classes.length then 0 else smallS c l + largeS c l + sumI (keepF c mv) c.classes.length
theorem keepF_range {c : Cf} (ok : OkMay c) (mv : List Bool) {k : Nat} (hk : k < c.keep.length) : 0 ≤ keepF c mv k ∧ keepF c mv k ≤ 1025 := by
  have := ok.keep k hk
  unfold keepF
  split <;> omega
theorem most1 (w : World) (gc : Nat) (k : Nat) (b : Bool) (c : Cf) (mv : List Bool) (ac : Option Addr) (cc : Nat) (ak : Option Addr) (ck : Nat) (hc : w.heap[gc]? = some (.cells #[.int .i64 c.size, .int .i64 c.pages, .slice ac c.classes.length cc, .slice ak c.keep.length ck, .int .i64 c.step, .int .i64 c.slots, .int .i64 c.gens, .int .i64 c.most] 24 (0, 0))) (h : CV w (.agg #[.int .i64 c.size, .int .i64 c.pages, .slice ac c.classes.length cc, .slice ak c.keep.length ck, .int .i64 c.step, .int .i64 c.slots, .int .i64 c.gens, .int .i64 c.most]) c) (ok : OkMay c) (hk : k < c.keep.length) (hb : mv.getD k false = b) :
    Calls Try.prog 33 #[.int .i64 k, .bool b, ptr gc] w fun e w' => e = .returned (.int .i64 (keepF c mv k)) ∧ Below w.heap.size w w' := by
  have hr := ok.keep k hk
  have hcap := h.lk.caps
  obtain ⟨gl, off, c', hv, hx⟩ := h.lk.elem hk
  cases hv
  have z0 := hx w (Below.refl _ _)
  have x3 := blk_cell hc 3
  clear hc h hx ok
  unfold keepF
  rw [hb]
  clear hb
  generalize c.keep.getD k 0 = x at hr z0 ⊢
  cases b
  · go_enter Try.func33, Try.ntmps33
    go_wp2_with fail
    go_ret
    exact ⟨by simp, Below.refl _ _⟩
  · go_enter Try.func33, Try.ntmps33
    go_wp2_with fail
    go_ret
    exact ⟨rfl, Below.refl _ _⟩
theorem sumM (w : World) (v : Value) (l : List Bool) (p0 : Value) (f : Nat → Int) (h : LB w v l)
    (hf : ∀ k, k < l.length → ∀ W, Below w.heap.size w W → Calls Try.prog 33 #[.int .i64 k, .bool (l.getD k false), p0] W fun e w' => e = .returned (.int .i64 (f k)) ∧ Below W.heap.size W w')
    (hb : ∀ k, k ≤ l.length → -9223372036854775808 ≤ sumI f k ∧ sumI f k ≤ 9223372036854775807) :
    Calls Try.prog 32 #[v, .func (.func 33) #[] #[p0]] w fun e w' => e = .returned (.int .i64 (sumI f l.length)) ∧ Below w.heap.size w w' := by
  have H := Lib.hid h
  have HF := Lib.hid hf
  have HB := Lib.hid hb
  obtain ⟨a, c, rfl, hc, hm, _⟩ := h
  unfold maxLen at hm
  clear hf hb
  go_enter Try.func32, Try.ntmps32
  go_wp2_with fail
  go_loopw [5, 10] (fun m i wr => ∃ k : Nat, k ≤ l.length ∧ i = .int .i64 k ∧ m = .int .i64 (sumI f k) ∧ Below w.heap.size w wr) (fun _ i _ => l.length - (intOf i).toNat)
  case atStart => exact ⟨0, Nat.zero_le _, rfl, rfl, Below.refl _ _⟩
  case round =>
    obtain ⟨k, hk, rfl, rfl, br⟩ := hrel
    by_cases hlt : k < l.length
    · obtain ⟨gl, off, c', hv, hx⟩ := H.out.elem hlt
      cases hv
      have hx0 := hx _ br
      have HC := Lib.hid (HF.out k hlt wr br)
      have HS := Lib.hid (show sumI f (k + 1) = sumI f k + f k from rfl)
      have hbk := HB.out (k + 1) hlt
      rw [HS.out] at hbk
      generalize l.getD k false = x at hx0 HC
      generalize sumI f k = s at HS hbk ⊢
      generalize f k = y at HS hbk HC
      clear hx
      go_wp2_with fail
      refine HC.out.mono ?_
      rintro e w3 ⟨rfl, b3⟩
      have B3 := Lib.hid (br.trans (b3.mono br.size))
      clear b3
      go_wp2_with fail
      go_roundw
      case rel => exact ⟨k + 1, hlt, by go_num, by rw [HS.out], B3.out⟩
      case measure => simp [intOf]; omega
    · obtain rfl : k = l.length := by omega
      go_wp2_with fail
      go_ret
      exact ⟨rfl, br⟩
theorem pages_sum {c : Cf} {l : List Int} (hb : ¬ 0 < badS c l) : pagesN c l = smallS c l + largeS c l ∧ pagesE c l = 0 := ⟨if_neg hb, if_neg hb⟩
theorem pages_range {c : Cf} (ok : OkMay c) (l : List Int) (hlen : l.length ≤ 1000) : 0 ≤ pagesN c l ∧ pagesN c l ≤ 529000 := by
  unfold pagesN
  split
  · omega
  · rename_i hb
    have h1 := smallS_range ok l hlen _ (Nat.le_refl _)
    have h2 := largeS_range ok l hlen (bad_zero hb) _ (Nat.le_refl _)
    unfold smallS largeS
    omega
set_option maxHeartbeats 2000000 in
theorem most_any (w : World) (v vl vm : Value) (c : Cf) (l : List Int) (mv : List Bool) (h : CV w v c) (ok : OkMay c) (hl : LV 0 w vl l) (hlen : l.length ≤ 1000) (hm : LB w vm mv) : Calls Try.prog 12 #[v, vl, vm] w fun e w' => e = .returned (.tuple #[.int .i64 (mostN c l mv), .int .i64 (mostE c l mv)]) ∧ Below w.heap.size w w' := by
  have hmf : ∀ (fn : Fn) (first cap : Array Value) (w : World), (Instr.makeFunc fn first cap).run Try.prog w = .ok (.func fn first cap) w := fun _ _ _ _ => rfl
  have HK := Lib.hid ok
  have hpr := pages_range ok l hlen
  have hpos := ok.pos
  have HP := Lib.hid (fun W (b : Below w.heap.size w W) => pages_any W v vl c l (h.below b) ok (hl.keep b) hlen)
  have HM := Lib.hid hm
  obtain ⟨ac, cc, ak, ck, rfl, h1, h2⟩ := h
  obtain ⟨al, cl, rfl, hl1, hl2, hl3, hl4⟩ := hl
  obtain ⟨am, cm, rfl, hm1, hm2, hm3⟩ := hm
  unfold maxLen at hm2
  have HC : Hid (CV w (.agg #[.int .i64 c.size, .int .i64 c.pages, .slice ac c.classes.length cc, .slice ak c.keep.length ck, .int .i64 c.step, .int .i64 c.slots, .int .i64 c.gens, .int .i64 c.most]) c) := Lib.hid ⟨ac, cc, ak, ck, rfl, h1, h2⟩
  have B0 := Lib.hid ((Below.refl w.heap.size w).alloc (Nat.le_refl _) (.cells #[.int .i64 c.size, .int .i64 c.pages, .slice ac c.classes.length cc, .slice ak c.keep.length ck, .int .i64 c.step, .int .i64 c.slots, .int .i64 c.gens, .int .i64 c.most] 24))
  have X0 := Lib.hid (blk_new w (.cells #[.int .i64 c.size, .int .i64 c.pages, .slice ac c.classes.length cc, .slice ak c.keep.length ck, .int .i64 c.step, .int .i64 c.slots, .int .i64 c.gens, .int .i64 c.most] 24))
  have hcap := h1.caps
  have hcap2 := h2.caps
  clear h1 h2 hl3 hl4 hm3
  by_cases hbad : 0 < badS c l
  · rw [show mostN c l mv = 0 from if_pos hbad, show mostE c l mv = 3 from if_pos hbad]
    have e1 := Lib.hid (show pagesN c l = 0 from if_pos hbad)
    have e2 := Lib.hid (show pagesE c l = 3 from if_pos hbad)
    clear hbad ok hpr
    go_enter Try.func12, Try.ntmps12
    go_wp2_with fail
    refine (HP.out _ B0.out).mono ?_
    rw [e1.out, e2.out]
    rintro e w1 ⟨rfl, b1⟩
    have B1 := Lib.hid (B0.out.trans (b1.mono B0.out.size))
    clear b1
    go_wp2_with fail
    go_ret2
    exact ⟨rfl, B1.out⟩
  · have e1 := Lib.hid (pages_sum hbad).1
    have e2 := Lib.hid (pages_sum hbad).2
    by_cases hne : mv.length = c.classes.length
    · rw [show mostN c l mv = smallS c l + largeS c l + sumI (keepF c mv) c.classes.length from by unfold mostN; rw [if_neg hbad, if_neg (by simp [hne])], show mostE c l mv = 0 from by unfold mostE; rw [if_neg hbad, if_neg (by simp [hne])], ← e1.out]
      have hn2 : ((mv.length : Int) != (c.classes.length : Int)) = false := by simp [hne]
      have hsr := fun k (hk : k ≤ c.classes.length) => sumI_bounds (f := keepF c mv) (M := 1025) (n := c.classes.length) (fun k hk => keepF_range HK.out mv (by have := HK.out.keepn; omega)) k hk
      have HZ := Lib.hid (fun W (b : Below (w.alloc (.cells #[.int .i64 c.size, .int .i64 c.pages, .slice ac c.classes.length cc, .slice ak c.keep.length ck, .int .i64 c.step, .int .i64 c.slots, .int .i64 c.gens, .int .i64 c.most] 24)).heap.size (w.alloc (.cells #[.int .i64 c.size, .int .i64 c.pages, .slice ac c.classes.length cc, .slice ak c.keep.length ck, .int .i64 c.step, .int .i64 c.slots, .int .i64 c.gens, .int .i64 c.most] 24)) W) => sumM W _ mv (ptr w.heap.size) (keepF c mv) (HM.out.keep (B0.out.trans (b.mono B0.out.size))) (fun k hk W2 b2 => most1 W2 _ k _ c mv ac cc ak ck (below_blk (b.trans (b2.mono b.size)) X0.out (blk_lt X0.out)) (HC.out.below (B0.out.trans ((b.trans (b2.mono b.size)).mono B0.out.size))) HK.out (by have := HK.out.keepn; omega) rfl) (fun k hk => by have := hsr k (by omega); omega) |>.mono fun e w' h => (show e = .returned (.int .i64 (sumI (keepF c mv) c.classes.length)) ∧ Below W.heap.size W w' from ⟨by rw [h.1, hne], h.2⟩))
      have hz := hsr c.classes.length (Nat.le_refl _)
      generalize sumI (keepF c mv) c.classes.length = ss at hz HZ ⊢
      have hz2 : 0 ≤ ss ∧ ss ≤ 20000 := by omega
      generalize pagesN c l = pn at HP hpr ⊢
      clear hbad ok hne e1 hsr hz
      go_enter Try.func12, Try.ntmps12
      go_wp2_with fail
      refine (HP.out _ B0.out).mono ?_
      rw [e2.out]
      rintro e w1 ⟨rfl, b1⟩
      have B1 := Lib.hid b1
      have x2 := blk_cell (below_blk b1 X0.out (blk_lt X0.out)) 2
      clear b1
      go_wp2_with fail
      refine (HZ.out w1 B1.out).mono ?_
      rintro e w2 ⟨rfl, b2⟩
      have B2 := Lib.hid (B0.out.trans ((B1.out.trans (b2.mono B1.out.size)).mono B0.out.size))
      clear b2
      go_wp2_with fail
      go_ret2
      exact ⟨rfl, B2.out⟩
    · rw [show mostN c l mv = 0 from by unfold mostN; rw [if_neg hbad, if_pos hne], show mostE c l mv = 1 from by unfold mostE; rw [if_neg hbad, if_pos hne]]
      have hn2 : ((mv.length : Int) != (c.classes.length : Int)) = true := by simp; omega
      generalize pagesN c l = pn at HP hpr
      clear hbad ok hne e1
      go_enter Try.func12, Try.ntmps12
      go_wp2_with fail
      refine (HP.out _ B0.out).mono ?_
      rw [e2.out]
      rintro e w1 ⟨rfl, b1⟩
      have B1 := Lib.hid (B0.out.trans (b1.mono B0.out.size))
      have x2 := blk_cell (below_blk b1 X0.out (blk_lt X0.out)) 2
      clear b1
      go_wp2_with fail
      go_ret2
      exact ⟨rfl, B1.out⟩
set_option maxHeartbeats 2000000 in
theorem rmost_any (w : World) (v vl vm : Value) (c : Cf) (l : List Int) (mv : List Bool) (h : CV w v c) (ok : OkMay c) (hl : LV 0 w vl l) (hlen : l.length ≤ 1000) (hm : LB w vm mv) : Calls Try.prog 13 #[v, vl, vm] w fun e w' => e = .returned (.tuple #[.int .i64 (mostN c l mv), .int .i64 (mostE c l mv)]) ∧ Below w.heap.size w w' := by
  have HK := Lib.hid ok
  have hpr := pages_range ok l hlen
  have hpos := ok.pos
  have HP := Lib.hid (fun W (b : Below w.heap.size w W) => rpages_any W v vl c l (h.below b) ok (hl.keep b) hlen)
  have HM := Lib.hid hm
  obtain ⟨ac, cc, ak, ck, rfl, h1, h2⟩ := h
  obtain ⟨al, cl, rfl, hl1, hl2, hl3, hl4⟩ := hl
  obtain ⟨am, cm, rfl, hm1, hm2, hm3⟩ := hm
  unfold maxLen at hm2
  have HC : Hid (CV w (.agg #[.int .i64 c.size, .int .i64 c.pages, .slice ac c.classes.length cc, .slice ak c.keep.length ck, .int .i64 c.step, .int .i64 c.slots, .int .i64 c.gens, .int .i64 c.most]) c) := Lib.hid ⟨ac, cc, ak, ck, rfl, h1, h2⟩
  have B0 := Lib.hid ((Below.refl w.heap.size w).alloc (Nat.le_refl _) (.cells #[.int .i64 c.size, .int .i64 c.pages, .slice ac c.classes.length cc, .slice ak c.keep.length ck, .int .i64 c.step, .int .i64 c.slots, .int .i64 c.gens, .int .i64 c.most] 24))
  have X0 := Lib.hid (blk_new w (.cells #[.int .i64 c.size, .int .i64 c.pages, .slice ac c.classes.length cc, .slice ak c.keep.length ck, .int .i64 c.step, .int .i64 c.slots, .int .i64 c.gens, .int .i64 c.most] 24))
  have hcap := h1.caps
  have hcap2 := h2.caps
  clear h1 h2 hl3 hl4 hm3
  by_cases hbad : 0 < badS c l
  · rw [show mostN c l mv = 0 from if_pos hbad, show mostE c l mv = 3 from if_pos hbad]
    have e1 := Lib.hid (show pagesN c l = 0 from if_pos hbad)
    have e2 := Lib.hid (show pagesE c l = 3 from if_pos hbad)
    clear hbad ok hpr
    go_enter Try.func13, Try.ntmps13
    go_wp2_with fail
    refine (HP.out _ B0.out).mono ?_
    rw [e1.out, e2.out]
    rintro e w1 ⟨rfl, b1⟩
    have B1 := Lib.hid (B0.out.trans (b1.mono B0.out.size))
    clear b1
    go_wp2_with fail
    go_ret2
    exact ⟨rfl, B1.out⟩
  · have e1 := Lib.hid (pages_sum hbad).1
    have e2 := Lib.hid (pages_sum hbad).2
    by_cases hne : mv.length = c.classes.length
    · rw [show mostN c l mv = smallS c l + largeS c l + sumI (keepF c mv) c.classes.length from by unfold mostN; rw [if_neg hbad, if_neg (by simp [hne])], show mostE c l mv = 0 from by unfold mostE; rw [if_neg hbad, if_neg (by simp [hne])], ← e1.out]
      have hn2 : ((mv.length : Int) != (c.classes.length : Int)) = false := by simp [hne]
      have hsr := fun k (hk : k ≤ c.classes.length) => sumI_bounds (f := keepF c mv) (M := 1025) (n := c.classes.length) (fun k hk => keepF_range HK.out mv (by have := HK.out.keepn; omega)) k hk
      have HZ := Lib.hid (fun k => (show sumI (keepF c mv) (k + 1) = sumI (keepF c mv) k + keepF c mv k from rfl))
      have HZ0 : Hid (sumI (keepF c mv) 0 = 0) := Lib.hid rfl
      have HSR := Lib.hid hsr
      have HNE := Lib.hid hne
      have HV : Hid (∀ k, keepF c mv k = c.keep.getD k 0 + if mv.getD k false then 1 else 0) := Lib.hid (fun k => rfl)
      have HKR := Lib.hid HK.out.keep
      generalize sumI (keepF c mv) = F at HSR HZ HZ0 ⊢
      generalize keepF c mv = f at HZ HV
      generalize pagesN c l = pn at HP hpr ⊢
      clear hbad ok hne e1 hsr
      go_enter Try.func13, Try.ntmps13
      go_wp2_with fail
      refine (HP.out _ B0.out).mono ?_
      rw [e2.out]
      rintro e w1 ⟨rfl, b1⟩
      have B1 := Lib.hid (B0.out.trans (b1.mono B0.out.size))
      have X1 := Lib.hid (below_blk b1 X0.out (blk_lt X0.out))
      have x2 := blk_cell X1.out 2
      clear b1
      go_wp2_with fail
      go_loopw [8, 10] (fun m i wr => ∃ j : Nat, j ≤ c.classes.length ∧ i = .int .i64 j ∧ m = .int .i64 (pn + F j) ∧ Hid (Below w.heap.size w wr) ∧ Hid (wr.heap[w.heap.size]? = some (.cells #[.int .i64 c.size, .int .i64 c.pages, .slice ac c.classes.length cc, .slice ak c.keep.length ck, .int .i64 c.step, .int .i64 c.slots, .int .i64 c.gens, .int .i64 c.most] 24 (0, 0)))) (fun _ i _ => c.classes.length - (intOf i).toNat)
      case atStart => exact ⟨0, Nat.zero_le _, rfl, by rw [HZ0.out, Int.add_zero], B1, X1⟩
      case round =>
        obtain ⟨j, hj, rfl, rfl, BR, HX⟩ := hrel
        have y2 := blk_cell HX.out 2
        by_cases hlt : j < c.classes.length
        · have hsr := HSR.out j hj
          have HS := Lib.hid (HZ.out j)
          have E1 := HC.out.lk.elem (k := j) (by have := HK.out.keepn; omega)
          have hne := HNE.out
          have E2 := HM.out.elem (k := j) (by omega)
          obtain ⟨gl, off, c', hv, hx⟩ := E1
          obtain ⟨gm, offm, c'', hv', hx'⟩ := E2
          cases hv
          cases hv'
          have z0 := hx wr BR.out
          have z1 := hx' wr BR.out
          have hmj : j < mv.length := by omega
          have hkj : j < c.keep.length := by have := HK.out.keepn; omega
          have hkr := HKR.out j hkj
          have HF := Lib.hid (HV.out j)
          have y3 := blk_cell HX.out 3
          generalize c.keep.getD j 0 = x at z0 hkr HF
          generalize mv.getD j false = b at z1 HF
          generalize F j = g at hsr HS ⊢
          generalize f j = fj at HS HF
          have hsr2 : 0 ≤ g ∧ g ≤ 20000 := by omega
          clear hx hx' hne hsr
          cases b
          · have HW : Hid (F (j + 1) = g + x) := Lib.hid (by rw [HS.out, HF.out]; simp)
            go_wp2_with fail
            go_roundw
            case rel => exact ⟨j + 1, hlt, by go_num, by rw [HW.out, Int.add_assoc], BR, HX⟩
            case measure => simp [intOf]; omega
          · have HW : Hid (F (j + 1) = g + x + 1) := Lib.hid (by rw [HS.out, HF.out]; simp; omega)
            go_wp2_with fail
            go_roundw
            case rel => exact ⟨j + 1, hlt, by go_num, by rw [HW.out, ← Int.add_assoc, ← Int.add_assoc], BR, HX⟩
            case measure => simp [intOf]; omega
        · obtain rfl : j = c.classes.length := by omega
          go_wp2_with fail
          go_ret2
          exact ⟨rfl, BR.out⟩
    · rw [show mostN c l mv = 0 from by unfold mostN; rw [if_neg hbad, if_pos hne], show mostE c l mv = 1 from by unfold mostE; rw [if_neg hbad, if_pos hne]]
      have hn2 : ((mv.length : Int) != (c.classes.length : Int)) = true := by simp; omega
      generalize pagesN c l = pn at HP hpr
      clear hbad ok hne e1
      go_enter Try.func13, Try.ntmps13
      go_wp2_with fail
      refine (HP.out _ B0.out).mono ?_
      rw [e2.out]
      rintro e w1 ⟨rfl, b1⟩
      have B1 := Lib.hid (B0.out.trans (b1.mono B0.out.size))
      have x2 := blk_cell (below_blk b1 X0.out (blk_lt X0.out)) 2
      clear b1
      go_wp2_with fail
      go_ret2
      exact ⟨rfl, B1.out⟩
end Go.Proofs.Ythhpkinedbdlhaa
