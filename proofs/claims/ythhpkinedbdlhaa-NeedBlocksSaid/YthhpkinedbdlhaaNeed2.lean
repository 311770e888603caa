/- need's Live and Pages. -/
import Derived.Test.YthhpkinedbdlhaaNeed
namespace Go.Proofs.Ythhpkinedbdlhaa
open Go.RowKit Go.Sort
set_option linter.unusedVariables false

theorem OkMay.pos {c : Cf} (h : OkMay c) : 0 < c.classes.length ∧ c.classes.length ≤ 16 := ⟨(mayB_iff.1 h.classes).1, (mayB_iff.1 h.classes).2.1⟩
theorem OkMay.most {c : Cf} (h : OkMay c) : c.most ≤ 2097152 := by
  have h1 := h.size1
  have h2 := h.size2
  have h3 := mul_range (a := c.size) (b := c.size / 8) (x := 4096) (y := 512) ⟨by omega, h2⟩ ⟨by omega, by omega⟩
  have h4 := h.most2
  omega
theorem large_bounds {c : Cf} (h : OkMay c) {n : Int} (h1 : 1 ≤ n) (h2 : n ≤ c.most) : 1 ≤ manyS n c.size ∧ manyS n c.size ≤ 512 ∧ allS n c.size = manyS n c.size + 1 := by
  have s1 := h.size1
  have s2 := h.size2
  have h4 := h.most2
  have e : manyS n c.size = (n - 1) / c.size + 1 := if_neg (by omega)
  have h5 : 0 ≤ (n - 1) / c.size := Int.ediv_nonneg (by omega) (by omega)
  have h6 : (n - 1) / c.size < c.size / 8 := Int.ediv_lt_of_lt_mul (by omega) (by rw [Int.mul_comm]; omega)
  have h7 : c.size / 8 ≤ 512 := by omega
  refine ⟨by omega, by omega, ?_⟩
  unfold allS
  rw [if_neg (by omega)]
theorem manyS_le (n b : Int) (h : 0 ≤ n) : 0 ≤ manyS n b ∧ manyS n b ≤ n := by
  unfold manyS
  split
  · omega
  · have h5 : 0 ≤ (n - 1) / b := Int.ediv_nonneg (by omega) (by omega)
    have h6 : (n - 1) / b ≤ n - 1 := Int.ediv_le_self _ (by omega)
    omega
theorem badF_range (c : Cf) (n : Int) : 0 ≤ badF c n ∧ badF c n ≤ 1 := by unfold badF; split <;> omega
theorem liveF_range (c : Cf) (k n : Int) : 0 ≤ liveF c k n ∧ liveF c k n ≤ 1 := by unfold liveF; split <;> omega
theorem largeF_range {c : Cf} (ok : OkMay c) {n : Int} (h : okN c n) : 0 ≤ largeF c n ∧ largeF c n ≤ 513 := by
  have := large_bounds ok h.1 h.2
  unfold largeF
  split <;> omega
theorem liveS_range (c : Cf) (l : List Int) (k : Int) : 0 ≤ liveS c l k ∧ liveS c l k ≤ l.length := by
  have := sumI_bounds (f := fun i => liveF c k (l.getD i 0)) (M := 1) (n := l.length) (fun i _ => liveF_range c k _) l.length (Nat.le_refl _)
  unfold liveS
  omega
theorem bad_zero {c : Cf} {l : List Int} (h : ¬ 0 < badS c l) : ∀ i, i < l.length → okN c (l.getD i 0) := by
  intro i hi
  have h1 := sumI_mono (f := fun i => badF c (l.getD i 0)) (n := l.length) (fun k _ => (badF_range c _).1) (i := i + 1) (j := l.length) hi (Nat.le_refl _)
  have h2 := (sumI_bounds (f := fun i => badF c (l.getD i 0)) (M := 1) (n := l.length) (fun i _ => badF_range c _) i (by omega)).1
  unfold badS at h
  simp only [sumI] at h1
  have h3 : badF c (l.getD i 0) ≤ 0 := by omega
  by_cases e : okN c (l.getD i 0)
  · exact e
  · have : badF c (l.getD i 0) = 1 := if_neg e
    omega
theorem bad_pos {c : Cf} {l : List Int} {i : Nat} (hi : i < l.length) (h : ¬ okN c (l.getD i 0)) : 0 < badS c l := by
  by_cases e : 0 < badS c l
  · exact e
  · exact absurd (bad_zero e i hi) h

theorem live_any (w : World) (v vl : Value) (c : Cf) (l : List Int) (k : Int) (h : CV w v c) (hl : LV 0 w vl l) (hlen : l.length ≤ 1000) : Calls Try.prog 14 #[v, vl, .int .i64 k] w fun e w' => e = .returned (.int .i64 (liveS c l k)) ∧ Below w.heap.size w w' := by
  obtain ⟨ac, cc, ak, ck, rfl, h1, h2⟩ := h
  have hmf : ∀ (fn : Fn) (first cap : Array Value) (w : World), (Instr.makeFunc fn first cap).run Try.prog w = .ok (.func fn first cap) w := fun _ _ _ _ => rfl
  have B0 := Lib.hid (((Below.refl w.heap.size w).alloc (Nat.le_refl _) (.cells #[.int .i64 c.size, .int .i64 c.pages, .slice ac c.classes.length cc, .slice ak c.keep.length ck, .int .i64 c.step, .int .i64 c.slots, .int .i64 c.gens, .int .i64 c.most] 24)).alloc (by simp) (.cells #[.int .i64 k] 3))
  have X0 : Hid (((w.alloc (.cells #[.int .i64 c.size, .int .i64 c.pages, .slice ac c.classes.length cc, .slice ak c.keep.length ck, .int .i64 c.step, .int .i64 c.slots, .int .i64 c.gens, .int .i64 c.most] 24)).alloc (.cells #[.int .i64 k] 3)).heap[w.heap.size]? = some (.cells #[.int .i64 c.size, .int .i64 c.pages, .slice ac c.classes.length cc, .slice ak c.keep.length ck, .int .i64 c.step, .int .i64 c.slots, .int .i64 c.gens, .int .i64 c.most] 24 (0, 0))) := Lib.hid (blk_alloc (blk_new w (.cells #[.int .i64 c.size, .int .i64 c.pages, .slice ac c.classes.length cc, .slice ak c.keep.length ck, .int .i64 c.step, .int .i64 c.slots, .int .i64 c.gens, .int .i64 c.most] 24)) _)
  have X1 : Hid (((w.alloc (.cells #[.int .i64 c.size, .int .i64 c.pages, .slice ac c.classes.length cc, .slice ak c.keep.length ck, .int .i64 c.step, .int .i64 c.slots, .int .i64 c.gens, .int .i64 c.most] 24)).alloc (.cells #[.int .i64 k] 3)).heap[w.heap.size + 1]? = some (.cells #[.int .i64 k] 3 (0, 0))) := Lib.hid (by have := blk_new (w.alloc (.cells #[.int .i64 c.size, .int .i64 c.pages, .slice ac c.classes.length cc, .slice ak c.keep.length ck, .int .i64 c.step, .int .i64 c.slots, .int .i64 c.gens, .int .i64 c.most] 24)) (.cells #[.int .i64 k] 3); simpa using this)
  have H1 := Lib.hid (h1.keep B0.out)
  have E := Lib.hid (sumL 0 _ vl l (ptr w.heap.size) (ptr (w.heap.size + 1)) (fun i => liveF c k (l.getD i 0)) (hl.keep B0.out) (fun i hi W b => live1 W _ _ c i k (l.getD i 0) ac cc ak ck (below_blk b X0.out (blk_lt X0.out)) (below_blk b X1.out (blk_lt X1.out)) (H1.out.keep b)) (fun i hi => by
    have := sumI_bounds (f := fun i => liveF c k (l.getD i 0)) (M := 1) (n := l.length) (fun i _ => liveF_range c k _) i hi
    omega))
  obtain ⟨al, cl, rfl, _, _, _, _⟩ := hl
  clear h1 h2
  go_enter Try.func14, Try.ntmps14
  go_wp2_with fail
  refine E.out.mono ?_
  rintro e w1 ⟨rfl, b1⟩
  have B1 := Lib.hid (B0.out.trans (b1.mono B0.out.size))
  clear b1
  go_wp2_with fail
  go_ret
  exact ⟨rfl, B1.out⟩
theorem pages1 (w : World) (gc : Nat) (i n : Int) (c : Cf) (ac : Option Addr) (cc : Nat) (ak : Option Addr) (ck : Nat) (hc : w.heap[gc]? = some (.cells #[.int .i64 c.size, .int .i64 c.pages, .slice ac c.classes.length cc, .slice ak c.keep.length ck, .int .i64 c.step, .int .i64 c.slots, .int .i64 c.gens, .int .i64 c.most] 24 (0, 0))) : Calls Try.prog 24 #[.int .i64 i, .int .i64 n, ptr gc] w fun e w' => e = .returned (.int .i64 (badF c n)) ∧ Below w.heap.size w w' := by
  have x7 := blk_cell hc 7
  clear hc
  by_cases g1 : n < 1
  · rw [show badF c n = 1 from if_neg (fun h => by have := h.1; omega)]
    go_enter Try.func24, Try.ntmps24
    go_wp2_with fail
    go_ret
    exact ⟨rfl, Below.refl _ _⟩
  · by_cases g2 : c.most < n
    · rw [show badF c n = 1 from if_neg (fun h => by have := h.2; omega)]
      go_enter Try.func24, Try.ntmps24
      go_wp2_with fail
      go_ret
      exact ⟨rfl, Below.refl _ _⟩
    · rw [show badF c n = 0 from if_pos ⟨by omega, by omega⟩]
      go_enter Try.func24, Try.ntmps24
      go_wp2_with fail
      go_ret
      exact ⟨rfl, Below.refl _ _⟩
theorem pages3 (w : World) (gc : Nat) (i n : Int) (c : Cf) (ac : Option Addr) (cc : Nat) (ak : Option Addr) (ck : Nat) (hc : w.heap[gc]? = some (.cells #[.int .i64 c.size, .int .i64 c.pages, .slice ac c.classes.length cc, .slice ak c.keep.length ck, .int .i64 c.step, .int .i64 c.slots, .int .i64 c.gens, .int .i64 c.most] 24 (0, 0))) (h : CV w (.agg #[.int .i64 c.size, .int .i64 c.pages, .slice ac c.classes.length cc, .slice ak c.keep.length ck, .int .i64 c.step, .int .i64 c.slots, .int .i64 c.gens, .int .i64 c.most]) c) (hn : n ≤ 9223372036854775807) : Calls Try.prog 28 #[.int .i64 i, .int .i64 n, ptr gc] w fun e w' => e = .returned (.int .i64 (largeF c n)) ∧ Below w.heap.size w w' := by
  have X0 := Lib.hid hc
  have H := Lib.hid h
  have x0 := blk_cell hc 0
  have x1 := blk_cell hc 1
  have x2 := blk_cell hc 2
  have x3 := blk_cell hc 3
  have x4 := blk_cell hc 4
  have x5 := blk_cell hc 5
  have x6 := blk_cell hc 6
  have x7 := blk_cell hc 7
  clear hc h
  by_cases g1 : n ≤ lastC c.classes
  · rw [show largeF c n = 0 from if_pos g1]
    have HS := Lib.hid (small_any w _ c H.out)
    generalize lastC c.classes = la at g1 HS
    go_enter Try.func28, Try.ntmps28
    go_wp2_with fail
    refine HS.out.mono ?_
    rintro e w1 ⟨rfl, b1⟩
    go_wp2_with fail
    go_ret
    exact ⟨rfl, b1⟩
  · rw [show largeF c n = allS n c.size from if_neg g1]
    have HS := Lib.hid (small_any w _ c H.out)
    generalize lastC c.classes = la at g1 HS
    go_enter Try.func28, Try.ntmps28
    go_wp2_with fail
    refine HS.out.mono ?_
    rintro e w1 ⟨rfl, b1⟩
    have y0 := blk_cell (below_blk b1 X0.out (blk_lt X0.out)) 0
    clear x0 x1 x2 x3 x4 x5 x6 x7
    go_wp2_with fail
    refine (all_any _ n c.size hn).mono ?_
    rintro e w2 ⟨rfl, rfl⟩
    go_wp2_with fail
    go_ret
    exact ⟨rfl, b1⟩
set_option maxHeartbeats 1000000 in
theorem pages2 (w : World) (gc gl : Nat) (k x : Int) (vl : Value) (l : List Int) (c : Cf) (ac : Option Addr) (cc : Nat) (ak : Option Addr) (ck : Nat) (hc : w.heap[gc]? = some (.cells #[.int .i64 c.size, .int .i64 c.pages, .slice ac c.classes.length cc, .slice ak c.keep.length ck, .int .i64 c.step, .int .i64 c.slots, .int .i64 c.gens, .int .i64 c.most] 24 (0, 0))) (hg : w.heap[gl]? = some (.cells #[vl] 22 (0, 0))) (h : CV w (.agg #[.int .i64 c.size, .int .i64 c.pages, .slice ac c.classes.length cc, .slice ak c.keep.length ck, .int .i64 c.step, .int .i64 c.slots, .int .i64 c.gens, .int .i64 c.most]) c) (hl : LV 0 w vl l) (hlen : l.length ≤ 1000) (hs : c.size ≤ 9223372036854775807) :
    Calls Try.prog 25 #[.int .i64 k, .int .i64 x, ptr gc, ptr gl] w fun e w' => e = .returned (.int .i64 (manyS (liveS c l k) (blocksS c k))) ∧ Below w.heap.size w w' := by
  have H := Lib.hid h
  have HL := Lib.hid hl
  have hr := liveS_range c l k
  obtain ⟨al, cl, rfl, hcl, hml, _, _⟩ := hl
  have q0 := cell_regrown (blk_cell hc 0)
  have q1 := cell_regrown (blk_cell hc 1)
  have q2 := cell_regrown (blk_cell hc 2)
  have q3 := cell_regrown (blk_cell hc 3)
  have q4 := cell_regrown (blk_cell hc 4)
  have q5 := cell_regrown (blk_cell hc 5)
  have q6 := cell_regrown (blk_cell hc 6)
  have q7 := cell_regrown (blk_cell hc 7)
  have ql := cell_regrown (blk_cell hg 0)
  have cHQ : ∀ (d : Nat) (os : Array Obj), Calls Try.prog 14 #[.agg #[.int .i64 c.size, .int .i64 c.pages, .slice ac c.classes.length cc, .slice ak c.keep.length ck, .int .i64 c.step, .int .i64 c.slots, .int .i64 c.gens, .int .i64 c.most], .slice al l.length cl, .int .i64 k] (grow (redrawn w d) os) fun e w'' => e = .returned (.int .i64 (liveS c l k)) ∧ ∃ p : Regrown, w'' = grow (redrawn w p.d) p.os := fun d os =>
    Calls.regrown_of (live_any _ _ _ c l k (H.out.below (below_regrown w d os)) (HL.out.keep (below_regrown w d os)) hlen)
  have HQ := Lib.hid cHQ
  clear cHQ
  have cHB : ∀ (d : Nat) (os : Array Obj), Calls Try.prog 27 #[.agg #[.int .i64 c.size, .int .i64 c.pages, .slice ac c.classes.length cc, .slice ak c.keep.length ck, .int .i64 c.step, .int .i64 c.slots, .int .i64 c.gens, .int .i64 c.most], .int .i64 k] (grow (redrawn w d) os) fun e w'' => e = .returned (.int .i64 (blocksS c k)) ∧ ∃ p : Regrown, w'' = grow (redrawn w p.d) p.os := fun d os =>
    Calls.regrown_of (blocks_any _ _ c k (H.out.below (below_regrown w d os)) hs)
  have HB := Lib.hid cHB
  clear cHB
  have cHM : ∀ (d : Nat) (os : Array Obj), Calls Try.prog 26 #[.int .i64 (liveS c l k), .int .i64 (blocksS c k)] (grow (redrawn w d) os) fun e w'' => e = .returned (.int .i64 (manyS (liveS c l k) (blocksS c k))) ∧ ∃ p : Regrown, w'' = grow (redrawn w p.d) p.os := fun d os =>
    Calls.regrown_of (calls_below (many_any _ _ _ (by omega)))
  have HM := Lib.hid cHM
  clear cHM
  generalize liveS c l k = li at HQ HM hr ⊢
  generalize blocksS c k = bl at HB HM ⊢
  generalize manyS li bl = m at HM ⊢
  clear hc hg h
  go_enter Try.func25, Try.ntmps25
  go_wp2_with fail
  refine wp_region_quiet_below (by kernel_rfl) (by kernel_rfl) ?_
  repeat (first | go_big_quiet_step (first | with_reducible exact HQ.out _ _ | with_reducible exact HB.out _ _ | with_reducible exact HM.out _ _) | quiet_step (first | with_reducible exact HQ.out _ _ | with_reducible exact HB.out _ _ | with_reducible exact HM.out _ _))
  refine wpQuiet_nil ?_
  intro _ hw'
  obtain ⟨⟨dq, osq⟩, hw''⟩ := hw'
  subst hw''
  have B5 := below_regrown w dq osq
  go_wp2_with fail
  go_ret
  exact ⟨rfl, B5⟩

def pagesE (c : Cf) (l : List Int) : Int := if 0 < badS c l then 3 else 0
def pagesN (c : Cf) (l : List Int) : Int := if 0 < badS c l then 0 else smallS c l + largeS c l
theorem smallS_range {c : Cf} (ok : OkMay c) (l : List Int) (hlen : l.length ≤ 1000) : ∀ k, k ≤ c.classes.length → 0 ≤ sumI (fun k => manyS (liveS c l k) (blocksS c k)) k ∧ sumI (fun k => manyS (liveS c l k) (blocksS c k)) k ≤ 16000 := by
  intro k hk
  have := sumI_bounds (f := fun k => manyS (liveS c l k) (blocksS c k)) (M := 1000) (n := c.classes.length) (fun i _ => by
    have h1 := liveS_range c l i
    have h2 := manyS_le (liveS c l i) (blocksS c i) h1.1
    omega) k hk
  have h3 := ok.pos.2
  omega
theorem largeS_range {c : Cf} (ok : OkMay c) (l : List Int) (hlen : l.length ≤ 1000) (hok : ∀ i, i < l.length → okN c (l.getD i 0)) : ∀ k, k ≤ l.length → 0 ≤ sumI (fun i => largeF c (l.getD i 0)) k ∧ sumI (fun i => largeF c (l.getD i 0)) k ≤ 513000 := by
  intro k hk
  have := sumI_bounds (f := fun i => largeF c (l.getD i 0)) (M := 513) (n := l.length) (fun i hi => largeF_range ok (hok i hi)) k hk
  omega
set_option maxHeartbeats 1000000 in
theorem pages_any (w : World) (v vl : Value) (c : Cf) (l : List Int) (h : CV w v c) (ok : OkMay c) (hl : LV 0 w vl l) (hlen : l.length ≤ 1000) : Calls Try.prog 10 #[v, vl] w fun e w' => e = .returned (.tuple #[.int .i64 (pagesN c l), .int .i64 (pagesE c l)]) ∧ Below w.heap.size w w' := by
  have hs := ok.size2
  have hm := ok.most
  have hpos := ok.pos
  obtain ⟨ac, cc, ak, ck, rfl, h1, h2⟩ := h
  obtain ⟨al, cl, rfl, hl1, hl2, hl3, hl4⟩ := hl
  have hl : LV 0 w (.slice al l.length cl) l := ⟨al, cl, rfl, hl1, hl2, hl3, hl4⟩
  have hmf : ∀ (fn : Fn) (first cap : Array Value) (w : World), (Instr.makeFunc fn first cap).run Try.prog w = .ok (.func fn first cap) w := fun _ _ _ _ => rfl
  have B0 := Lib.hid (((Below.refl w.heap.size w).alloc (Nat.le_refl _) (.cells #[.int .i64 c.size, .int .i64 c.pages, .slice ac c.classes.length cc, .slice ak c.keep.length ck, .int .i64 c.step, .int .i64 c.slots, .int .i64 c.gens, .int .i64 c.most] 24)).alloc (by simp) (.cells #[.slice al l.length cl] 22))
  have X0 : Hid (((w.alloc (.cells #[.int .i64 c.size, .int .i64 c.pages, .slice ac c.classes.length cc, .slice ak c.keep.length ck, .int .i64 c.step, .int .i64 c.slots, .int .i64 c.gens, .int .i64 c.most] 24)).alloc (.cells #[.slice al l.length cl] 22)).heap[w.heap.size]? = some (.cells #[.int .i64 c.size, .int .i64 c.pages, .slice ac c.classes.length cc, .slice ak c.keep.length ck, .int .i64 c.step, .int .i64 c.slots, .int .i64 c.gens, .int .i64 c.most] 24 (0, 0))) := Lib.hid (blk_alloc (blk_new w (.cells #[.int .i64 c.size, .int .i64 c.pages, .slice ac c.classes.length cc, .slice ak c.keep.length ck, .int .i64 c.step, .int .i64 c.slots, .int .i64 c.gens, .int .i64 c.most] 24)) _)
  have X1 : Hid (((w.alloc (.cells #[.int .i64 c.size, .int .i64 c.pages, .slice ac c.classes.length cc, .slice ak c.keep.length ck, .int .i64 c.step, .int .i64 c.slots, .int .i64 c.gens, .int .i64 c.most] 24)).alloc (.cells #[.slice al l.length cl] 22)).heap[w.heap.size + 1]? = some (.cells #[.slice al l.length cl] 22 (0, 0))) := Lib.hid (by have := blk_new (w.alloc (.cells #[.int .i64 c.size, .int .i64 c.pages, .slice ac c.classes.length cc, .slice ak c.keep.length ck, .int .i64 c.step, .int .i64 c.slots, .int .i64 c.gens, .int .i64 c.most] 24)) (.cells #[.slice al l.length cl] 22); simpa using this)
  have HL := Lib.hid (hl.keep B0.out)
  have HC : Hid (CV ((w.alloc (.cells #[.int .i64 c.size, .int .i64 c.pages, .slice ac c.classes.length cc, .slice ak c.keep.length ck, .int .i64 c.step, .int .i64 c.slots, .int .i64 c.gens, .int .i64 c.most] 24)).alloc (.cells #[.slice al l.length cl] 22)) (.agg #[.int .i64 c.size, .int .i64 c.pages, .slice ac c.classes.length cc, .slice ak c.keep.length ck, .int .i64 c.step, .int .i64 c.slots, .int .i64 c.gens, .int .i64 c.most]) c) := Lib.hid ⟨ac, cc, ak, ck, rfl, h1.keep B0.out, h2.keep B0.out⟩
  have HK := Lib.hid (h1.keep B0.out)
  have E1 := Lib.hid (sum1 0 _ _ l (ptr w.heap.size) (fun i => badF c (l.getD i 0)) HL.out (fun i hi W b => pages1 W _ i (l.getD i 0) c ac cc ak ck (below_blk b X0.out (blk_lt X0.out))) (fun i hi => by
    have := sumI_bounds (f := fun i => badF c (l.getD i 0)) (M := 1) (n := l.length) (fun i _ => badF_range c _) i hi
    omega))
  by_cases hbad : 0 < badS c l
  · rw [show pagesN c l = 0 from if_pos hbad, show pagesE c l = 3 from if_pos hbad]
    have hbad' : 0 < sumI (fun i => badF c (l.getD i 0)) l.length := hbad
    generalize sumI (fun i => badF c (l.getD i 0)) l.length = bs at E1 hbad'
    clear h1 h2 hl1 hl2 hl3 hl4 hbad ok
    go_enter Try.func10, Try.ntmps10
    go_wp2_with fail
    refine E1.out.mono ?_
    rintro e w1 ⟨rfl, b1⟩
    have B1 := Lib.hid (B0.out.trans (b1.mono B0.out.size))
    clear b1
    go_wp2_with fail
    go_ret2
    exact ⟨rfl, B1.out⟩
  · rw [show pagesN c l = smallS c l + largeS c l from if_neg hbad, show pagesE c l = 0 from if_neg hbad]
    have hok := bad_zero hbad
    have hbad' : ¬ 0 < sumI (fun i => badF c (l.getD i 0)) l.length := hbad
    have hsr := smallS_range ok l hlen
    have hlr := largeS_range ok l hlen hok
    have E2 := Lib.hid (fun W (b : Below ((w.alloc (.cells #[.int .i64 c.size, .int .i64 c.pages, .slice ac c.classes.length cc, .slice ak c.keep.length ck, .int .i64 c.step, .int .i64 c.slots, .int .i64 c.gens, .int .i64 c.most] 24)).alloc (.cells #[.slice al l.length cl] 22)).heap.size ((w.alloc (.cells #[.int .i64 c.size, .int .i64 c.pages, .slice ac c.classes.length cc, .slice ak c.keep.length ck, .int .i64 c.step, .int .i64 c.slots, .int .i64 c.gens, .int .i64 c.most] 24)).alloc (.cells #[.slice al l.length cl] 22)) W) => sum2 0 W _ c.classes (ptr w.heap.size) (ptr (w.heap.size + 1)) (fun k => manyS (liveS c l k) (blocksS c k)) (HK.out.keep b) (fun k hk W2 b2 => pages2 W2 _ _ k (c.classes.getD k 0) _ l c ac cc ak ck (below_blk (b.trans (b2.mono b.size)) X0.out (blk_lt X0.out)) (below_blk (b.trans (b2.mono b.size)) X1.out (blk_lt X1.out)) (HC.out.below (b.trans (b2.mono b.size))) (HL.out.keep (b.trans (b2.mono b.size))) hlen (by omega)) (fun k hk => by have := hsr k hk; omega))
    have E3 := Lib.hid (fun W (b : Below ((w.alloc (.cells #[.int .i64 c.size, .int .i64 c.pages, .slice ac c.classes.length cc, .slice ak c.keep.length ck, .int .i64 c.step, .int .i64 c.slots, .int .i64 c.gens, .int .i64 c.most] 24)).alloc (.cells #[.slice al l.length cl] 22)).heap.size ((w.alloc (.cells #[.int .i64 c.size, .int .i64 c.pages, .slice ac c.classes.length cc, .slice ak c.keep.length ck, .int .i64 c.step, .int .i64 c.slots, .int .i64 c.gens, .int .i64 c.most] 24)).alloc (.cells #[.slice al l.length cl] 22)) W) => sum3 0 W _ l (ptr w.heap.size) (fun i => largeF c (l.getD i 0)) (HL.out.keep b) (fun k hk W2 b2 => pages3 W2 _ k (l.getD k 0) c ac cc ak ck (below_blk (b.trans (b2.mono b.size)) X0.out (blk_lt X0.out)) (HC.out.below (b.trans (b2.mono b.size))) (by have := (hok k hk).2; omega)) (fun k hk => by have := hlr k hk; omega))
    have hs1 := hsr c.classes.length (Nat.le_refl _)
    have hl1' := hlr l.length (Nat.le_refl _)
    rw [show smallS c l = sumI (fun k => manyS (liveS c l k) (blocksS c k)) c.classes.length from rfl, show largeS c l = sumI (fun i => largeF c (l.getD i 0)) l.length from rfl]
    clear hsr hlr hok
    generalize sumI (fun i => badF c (l.getD i 0)) l.length = bs at E1 hbad'
    generalize sumI (fun k => manyS (liveS c l k) (blocksS c k)) c.classes.length = ss at E2 hs1 ⊢
    generalize sumI (fun i => largeF c (l.getD i 0)) l.length = ls at E3 hl1' ⊢
    clear h1 h2 hl1 hl2 hl3 hl4 hbad ok
    go_enter Try.func10, Try.ntmps10
    go_wp2_with fail
    refine E1.out.mono ?_
    rintro e w1 ⟨rfl, b1⟩
    have B1 := Lib.hid b1
    have x0 := blk_cell (below_blk b1 X0.out (blk_lt X0.out)) 0
    have x1 := blk_cell (below_blk b1 X0.out (blk_lt X0.out)) 1
    have x2 := blk_cell (below_blk b1 X0.out (blk_lt X0.out)) 2
    have x3 := blk_cell (below_blk b1 X0.out (blk_lt X0.out)) 3
    have x4 := blk_cell (below_blk b1 X0.out (blk_lt X0.out)) 4
    have x5 := blk_cell (below_blk b1 X0.out (blk_lt X0.out)) 5
    have x6 := blk_cell (below_blk b1 X0.out (blk_lt X0.out)) 6
    have x7 := blk_cell (below_blk b1 X0.out (blk_lt X0.out)) 7
    clear b1
    go_wp2_with fail
    refine (E2.out w1 B1.out).mono ?_
    rintro e w2 ⟨rfl, b2⟩
    have B2 := Lib.hid (B1.out.trans (b2.mono B1.out.size))
    have y0 := blk_cell (below_blk B2.out X1.out (blk_lt X1.out)) 0
    clear b2 x0 x1 x2 x3 x4 x5 x6 x7
    go_wp2_with fail
    refine (E3.out w2 B2.out).mono ?_
    rintro e w3 ⟨rfl, b3⟩
    have B3 := Lib.hid (B0.out.trans ((B2.out.trans (b3.mono B2.out.size)).mono B0.out.size))
    clear b3 y0
    go_wp2_with fail
    go_ret2
    exact ⟨rfl, B3.out⟩
end Go.Proofs.Ythhpkinedbdlhaa
