/- The contract of the iterator of chain.spans, whatever its caller keeps; and of chain.Cut: its spans, in a slice of its own. -/
import Derived.Test.YteipffehpddmjaaSpan
import Derived.Test.YteipffehpddmjaaRangeF
namespace Go.Proofs.Yteipffehpddmjaa
open Go.RowKit Go.Shelf
attribute [local go_sem] Oper.semAt_some

def spV (s : Sp) : Value := .agg #[.int .i64 s.n, .int .i64 s.at_, .int .i64 s.len]

/-- where the iterator calls yield: what it holds, and that the caller's word I holds of what came -/
def ItS (gA gP gN : Nat) (a0 n0 p : Int) (I : List Sp → World → Prop) (x : List Sp × Int × Int) (all : List Sp) (W : World) : Prop :=
  StS W gA gP gN x.2.1 x.2.2 p ∧ 0 < x.2.2 ∧ 0 ≤ x.2.1 ∧ x.2.1 + x.2.2 ≤ 16777216 ∧ x.1 ++ spansS x.2.1 x.2.2 p = spansS a0 n0 p ∧ I all W

set_option maxRecDepth 100000 in
set_option maxHeartbeats 2000000 in
theorem spans1_iter (l : Nat) (Lp Lx : World → Prop) (hLp : ∀ W W', Lp W → KeepsOthers W W' → Lp W') (gA gP gN : Nat) (hAP : gA ≠ gP) (hAN : gA ≠ gN) (hPN : gP ≠ gN) (a0 n0 p : Int)
    (hp : 1 ≤ p) (hp2 : p ≤ 9223372036854775807) (I : List Sp → World → Prop) (hI : ∀ pre W W', I pre W → Keep (fun k => k = gA ∨ k = gN) W W' → I pre W')
    (T : World → Nat → Prop) (hTn : ∀ pre W o, I pre W → ¬ T (W.alloc o) W.heap.size)
    (hY : ∀ (x : List Sp × Int × Int) (W : World), ItS gA gP gN a0 n0 p I x x.1 W → Lp W → YieldAt Fence.wide 3 Try.prog l #[spV (headS x.2.1 x.2.2 p)] W fun e W' =>
      (e = .returned (.bool true) ∧ ItS gA gP gN a0 n0 p I x (x.1 ++ [headS x.2.1 x.2.2 p]) W' ∧ KeepC (T W) W W' ∧ Lp W') ∨ (e = .returned (.bool false) ∧ Lx W'))
    (W1 : World) (hs : StS W1 gA gP gN a0 n0 p) (ha0 : 0 ≤ a0) (hn0 : a0 + n0 ≤ 16777216) (h0 : I [] W1) (hL : Lp W1) :
    CallsIn Fence.wide 4 Try.prog 17 #[.func (.yield l) #[] #[], .pointer (some ⟨gA, 0, none⟩), .pointer (some ⟨gP, 0, none⟩), .pointer (some ⟨gN, 0, none⟩)] W1 fun e W' =>
      (∃ v, e = .returned v) ∧ ((I (spansS a0 n0 p) W' ∧ Lp W') ∨ Lx W') := by
  have hmf : ∀ (fn : Fn) (first cap : Array Value) (w : World), (Instr.makeFunc fn first cap).run Try.prog w = .ok (.func fn first cap) w := fun _ _ _ _ => rfl
  refine callsIn_of_wp Try.func17 rfl trivial ?_ rfl
  simp only [Try.ntmps17, List.size_toArray, List.length_cons, List.length_nil, Nat.reduceAdd, Nat.reduceSub, Array.replicate_succ, Array.replicate_zero, List.push_toArray, List.append_toArray, List.nil_append, List.cons_append]
  gi_wp2_with fail
  gi_loopw [] (fun wr => ∃ (pre : List Sp) (a m : Int), StS wr gA gP gN a m p ∧ 0 ≤ a ∧ a + m ≤ 16777216 ∧ pre ++ spansS a m p = spansS a0 n0 p ∧ I pre wr ∧ Lp wr) (fun wr => (intOf ((wr.cell? ⟨gN, 0, none⟩).getD undef)).toNat)
  case atStart => exact ⟨[], a0, n0, hs, ha0, hn0, rfl, h0, hL⟩
  case round =>
    obtain ⟨pre, a, m, hst, ha, ham, hall, hi, hlp⟩ := hrel
    obtain ⟨hA, hP, hN⟩ := hst
    have cN : wr.cell? ⟨gN, 0, none⟩ = some (.int .i64 m) := blk_cell hN 0
    by_cases hm : 0 < m
    · gi_wp2_with fail
      refine ⟨trivial, (callsIn_wide.2 (next_any wr gA gP gN a m p ha (by omega) hm (by omega) hp hp2 ⟨hA, hP, hN⟩)).mono ?_⟩
      rintro e w2 ⟨rfl, k2⟩
      have hhl := head_len a m p hm hp
      have hcons := spans_cons a m p hm hp
      have hKO : KeepsOthers wr w2 := ⟨k2.size, fun k o hk _ => k2.blk hk (fun h => h)⟩
      obtain ⟨s, hse⟩ : ∃ s, s = headS a m p := ⟨_, rfl⟩
      rw [← hse] at hhl hcons ⊢
      have hA2 := blk_alloc (k2.blk hA (fun h => h)) (.cells #[.int .i64 s.n, .int .i64 s.at_, .int .i64 s.len] 29)
      have hP2 := blk_alloc (k2.blk hP (fun h => h)) (.cells #[.int .i64 s.n, .int .i64 s.at_, .int .i64 s.len] 29)
      have hN2 := blk_alloc (k2.blk hN (fun h => h)) (.cells #[.int .i64 s.n, .int .i64 s.at_, .int .i64 s.len] 29)
      have hi2 : I pre w2 := hI _ _ _ hi (k2.mono (fun i h => h.elim))
      have hi3 : I pre (w2.alloc (.cells #[.int .i64 s.n, .int .i64 s.at_, .int .i64 s.len] 29)) := hI _ _ _ hi2 ((Keep.refl _ _).alloc _)
      have hl2 : Lp (w2.alloc (.cells #[.int .i64 s.n, .int .i64 s.at_, .int .i64 s.len] 29)) := hLp _ _ (hLp _ _ hlp hKO) (KeepsOthers.alloc _ _)
      have hy0 := hY (pre, a, m) _ ⟨⟨hA2, hP2, hN2⟩, hm, ha, ham, hall, hi3⟩ hl2
      simp only [← hse] at hy0
      obtain ⟨fn, tmps, assign, body, hy, hR⟩ := hy0
      have hTn2 := hTn _ _ (.cells #[.int .i64 s.n, .int .i64 s.at_, .int .i64 s.len] 29) hi2
      have hsb := blk_new w2 (.cells #[.int .i64 s.n, .int .i64 s.at_, .int .i64 s.len] 29)
      have Hhall := Lib.hid hall
      have Hcons := Lib.hid hcons
      have Hse := Lib.hid hse
      clear hall hcons hse
      simp only [spV] at hy
      gi_wp2_with fail
      refine hR.mono ?_
      rintro e W' (⟨rfl, hp1, hk1, hl1⟩ | ⟨rfl, hx1⟩)
      · obtain ⟨⟨hA3, hP3, hN3⟩, _, _, _, _, hi4⟩ := hp1
        simp only at hA3 hP3 hN3 hi4
        have hs3 := hk1.2 _ _ hsb rfl hTn2
        have cA3 : W'.cell? ⟨gA, 0, none⟩ = some (.int .i64 a) := blk_cell hA3 0
        have cN3 : W'.cell? ⟨gN, 0, none⟩ = some (.int .i64 m) := blk_cell hN3 0
        have cS3 : W'.cell? ⟨w2.heap.size, 2, none⟩ = some (.int .i64 s.len) := blk_cell hs3 2
        have fA3 : W'.frozen? ⟨gA, 0, none⟩ = false := blk_frozen hA3 0
        have fN3 : W'.frozen? ⟨gN, 0, none⟩ = false := blk_frozen hN3 0
        have hAN' : gN ≠ gA := fun h => hAN h.symm
        gi_wp2_with fail
        gi_region
        have hAf : ((W'.setCell ⟨gA, 0, none⟩ (.int .i64 (a + s.len))).setCell ⟨gN, 0, none⟩ (.int .i64 (m - s.len))).heap[gA]? = some (.cells #[.int .i64 (a + s.len)] 3 (0, 0)) := blk_far (blk_set hA3 0 _) hAN _
        have hPf : ((W'.setCell ⟨gA, 0, none⟩ (.int .i64 (a + s.len))).setCell ⟨gN, 0, none⟩ (.int .i64 (m - s.len))).heap[gP]? = some (.cells #[.int .i64 p] 3 (0, 0)) := blk_far (blk_far hP3 (fun h => hAP h.symm) _) hPN _
        have hNf : ((W'.setCell ⟨gA, 0, none⟩ (.int .i64 (a + s.len))).setCell ⟨gN, 0, none⟩ (.int .i64 (m - s.len))).heap[gN]? = some (.cells #[.int .i64 (m - s.len)] 3 (0, 0)) := blk_set (blk_far hN3 hAN' _) 0 _
        have hK : Keep (fun k => k = gA ∨ k = gN) W' ((W'.setCell ⟨gA, 0, none⟩ (.int .i64 (a + s.len))).setCell ⟨gN, 0, none⟩ (.int .i64 (m - s.len))).drew := (((Keep.refl (fun k => k = gA ∨ k = gN) W').setCell (.inl (.inl rfl)) _).setCell (.inl (.inr rfl)) _).drew
        have hKo : KeepsOthers W' ((W'.setCell ⟨gA, 0, none⟩ (.int .i64 (a + s.len))).setCell ⟨gN, 0, none⟩ (.int .i64 (m - s.len))).drew := (KeepsOthers.setCell _ _ _).trans ((KeepsOthers.setCell _ _ _).trans (KeepsOthers.drew _))
        gi_wp2_with fail
        go_roundw
        case rel => exact ⟨pre ++ [s], a + s.len, m - s.len, ⟨hAf, hPf, hNf⟩, by omega, by omega, by rw [List.append_assoc, List.singleton_append, ← Hcons.out]; exact Hhall.out, hI _ _ _ hi4 hK, hLp _ _ hl1 hKo⟩
        case measure =>
          have c1 : (((W'.setCell ⟨gA, 0, none⟩ (.int .i64 (a + s.len))).setCell ⟨gN, 0, none⟩ (.int .i64 (m - s.len))).drew).cell? ⟨gN, 0, none⟩ = some (.int .i64 (m - s.len)) := blk_cell hNf 0
          rw [c1, cN]
          simp [intOf]
          omega
      · gi_wp2_with fail
        refine bodyPost_ret (results_none rfl _ _ _) rfl ?_
        exact ⟨⟨_, rfl⟩, .inr hx1⟩
    · have hm0 : m ≤ 0 := by omega
      rw [spans_nil a m p hm0, List.append_nil] at hall
      subst hall
      clear hm
      gi_wp2_with fail
      refine bodyPost_end (results_none rfl _ _ _) rfl ?_
      exact ⟨⟨_, rfl⟩, .inl ⟨hi, hlp⟩⟩
def flatS (l : List Sp) : List Value := l.flatMap Sp.cells
theorem flatS_snoc (l : List Sp) (s : Sp) : flatS (l ++ [s]) = flatS l ++ s.cells := by simp [flatS]
def cutS (a n p : Int) : List Sp := if a < 0 ∨ n < 0 ∨ p < 1 ∨ 16777216 < n ∨ 16777216 - n < a then [] else spansS a n p

theorem spans_any (w : World) (a n p : Int) : Calls Try.prog 14 #[.int .i64 a, .int .i64 n, .int .i64 p] w fun e w' =>
    e = .returned (.func (.func 17) #[] #[.pointer (some ⟨w.heap.size, 0, none⟩), .pointer (some ⟨w.heap.size + 2, 0, none⟩), .pointer (some ⟨w.heap.size + 1, 0, none⟩)]) ∧
    w' = ((w.alloc (.cells #[.int .i64 a] 3)).alloc (.cells #[.int .i64 n] 3)).alloc (.cells #[.int .i64 p] 3) := by
  have hmf : ∀ (fn : Fn) (first cap : Array Value) (w : World), (Instr.makeFunc fn first cap).run Try.prog w = .ok (.func fn first cap) w := fun _ _ _ _ => rfl
  go_enter Try.func14, Try.ntmps14
  go_wp2
  go_ret
  exact ⟨rfl, rfl⟩

/-- between two rounds: the list so far, in its box -/
def CutI (B0 g0 : Nat) (w : World) (pre : List Sp) (W : World) : Prop :=
  (∃ v, W.heap[g0]? = some (.cells #[v] 24 (0, 0)) ∧ W.ownsRow B0 29 3 v pre.length (flatS pre)) ∧ Below w.heap.size w W ∧ B0 ≤ W.heap.size ∧ pre.length ≤ 16777216
def CutT (B0 g0 : Nat) (W : World) (k : Nat) : Prop := k = g0 ∨ (B0 ≤ k ∧ ∃ v, W.heap[g0]? = some (.cells #[v] 24 (0, 0)) ∧ v.ownBlock = some k)

theorem firm_cutI {B B0 g0 : Nat} {w : World} (hB : w.heap.size ≤ B) (pre : List Sp) : Firm B (CutI B0 g0 w pre) := by
  refine Firm.and (Firm.ex fun v => (Firm.blk _ _ rfl).and (Firm.own _ _ _ _ _ _)) ((Firm.below hB).and (Firm.and ?_ (Firm.pure _ _)))
  intro W l o o' _ _ _ h
  simpa using h
theorem firm_its {B : Nat} (gA gP gN : Nat) (a0 n0 p : Int) (I : List Sp → World → Prop) (x : List Sp × Int × Int) (all : List Sp) (hI : Firm B (I all)) : Firm B (ItS gA gP gN a0 n0 p I x all) :=
  ((Firm.blk _ _ rfl).and ((Firm.blk _ _ rfl).and (Firm.blk _ _ rfl))).and ((Firm.pure _ _).and ((Firm.pure _ _).and ((Firm.pure _ _).and ((Firm.pure _ _).and hI))))

theorem Try.infoSpan : (Try.prog.info? 29).map (fun i => (i.zero, i.size, i.bytes)) = some (some (.agg #[.int .i64 0, .int .i64 0, .int .i64 0]), 3, 24) := by kernel_rfl

set_option maxRecDepth 100000 in
set_option maxHeartbeats 4000000 in
theorem cut_yes (w : World) (a n p : Int) (ha : 0 ≤ a) (hn : 0 ≤ n) (hp : 1 ≤ p) (hp2 : p ≤ 9223372036854775807) (hn2 : n ≤ 16777216) (han : a ≤ 16777216 - n) :
    Calls Try.prog 9 #[.int .i64 a, .int .i64 n, .int .i64 p] w fun e w' => ∃ v, e = .returned v ∧ w'.ownsRow w.heap.size 29 3 v (spansS a n p).length (flatS (spansS a n p)) ∧ Below w.heap.size w w' := by
  have d1 : decide (a < 0) = false := by simp; omega
  have d2 : decide (n < 0) = false := by simp; omega
  have d3 : decide (p < 1) = false := by simp; omega
  have d4 : decide (16777216 < n) = false := by simp; omega
  have d5 : decide (16777216 - n < a) = false := by simp; omega
  refine (callsIn_wide (n := 5)).1 ?_
  refine callsIn_of_wp_marks Try.func9 rfl trivial ?_ rfl
  simp only [Try.ntmps9, List.size_toArray, List.length_cons, List.length_nil, Nat.reduceAdd, Nat.reduceSub, Array.replicate_succ, Array.replicate_zero, List.push_toArray, List.append_toArray, List.nil_append, List.cons_append]
  gi_wp2_with fail
  refine ⟨trivial, (callsIn_wide.2 (spans_any _ a n p)).mono ?_⟩
  rintro e w1 ⟨rfl, hw1⟩
  have x0 : w1.heap[w.heap.size]? = some (.cells #[.slice none 0 0] 24 (0, 0)) := by rw [hw1]; exact blk_alloc (blk_alloc (blk_alloc (blk_new w _) _) _) _
  have x1 : w1.heap[w.heap.size + 1]? = some (.cells #[.int .i64 a] 3 (0, 0)) := by rw [hw1]; have h := blk_alloc (blk_alloc (blk_new (w.alloc (.cells #[.slice none 0 0] 24)) (.cells #[.int .i64 a] 3)) (.cells #[.int .i64 n] 3)) (.cells #[.int .i64 p] 3); simpa using h
  have x2 : w1.heap[w.heap.size + 2]? = some (.cells #[.int .i64 n] 3 (0, 0)) := by rw [hw1]; have h := blk_alloc (blk_new ((w.alloc (.cells #[.slice none 0 0] 24)).alloc (.cells #[.int .i64 a] 3)) (.cells #[.int .i64 n] 3)) (.cells #[.int .i64 p] 3); simpa using h
  have x3 : w1.heap[w.heap.size + 3]? = some (.cells #[.int .i64 p] 3 (0, 0)) := by rw [hw1]; have h := blk_new (((w.alloc (.cells #[.slice none 0 0] 24)).alloc (.cells #[.int .i64 a] 3)).alloc (.cells #[.int .i64 n] 3)) (.cells #[.int .i64 p] 3); simpa using h
  have hz1 : w1.heap.size = w.heap.size + 4 := by rw [hw1]; simp
  have b1 : Below w.heap.size w w1 := by rw [hw1]; exact ((((Below.refl _ _).alloc (Nat.le_refl _) _).alloc (by simp) _).alloc (by simp; omega) _).alloc (by simp; omega) _
  simp only [World.size_alloc]
  clear hw1
  have Hz := Lib.hid hz1
  clear hz1
  gi_wp2_with fail
  refine wpIn_range (n := 5) rfl (by omega) (gf := 17) (lb := #[.pointer (some ⟨w.heap.size + 1, 0, none⟩), .pointer (some ⟨w.heap.size + 3, 0, none⟩), .pointer (some ⟨w.heap.size + 2, 0, none⟩)]) rfl trivial (enters_of Try.func17 (by kernel_rfl) rfl)
    (fun x : List Sp × Int × Int => #[spV (headS x.2.1 x.2.2 p)]) (fun _ => rfl)
    (fun x W => ItS (w.heap.size + 1) (w.heap.size + 3) (w.heap.size + 2) a n p (CutI (w.heap.size + 4) w.heap.size w) x x.1 W)
    (fun x W => ItS (w.heap.size + 1) (w.heap.size + 3) (w.heap.size + 2) a n p (CutI (w.heap.size + 4) w.heap.size w) x (x.1 ++ [headS x.2.1 x.2.2 p]) W)
    (fun _ _ => False) (fun W => CutI (w.heap.size + 4) w.heap.size w (spansS a n p) W) (CutT (w.heap.size + 4) w.heap.size) ?hT ?hPost ?hStop ?hEnd ?hiter
    (fun x a' W => ItS (w.heap.size + 1) (w.heap.size + 3) (w.heap.size + 2) a n p (CutI (w.heap.size + 4) w.heap.size w) x x.1 W ∧
      ∃ Bx s, s = headS x.2.1 x.2.2 p ∧ W.heap[Bx]? = some (.cells s.cells.toArray 29 (0, 0)) ∧ ¬ CutT (w.heap.size + 4) w.heap.size W Bx ∧ Bx ≠ w.heap.size ∧
        a' = { tmps := #[.int .i64 a, .int .i64 n, .int .i64 p, undef, undef, undef, .slice none 0 0, .pointer (some ⟨w.heap.size, 0, none⟩), .pointer (some ⟨Bx, 0, none⟩), .int .i64 a, .bool false, .bool false, .int .i64 n, .bool false, .bool false, .bool false, .int .i64 p, .bool false, .bool false, .bool false, .int .i64 n, .bool false, .bool false, .bool false, .int .i64 a, .int .i64 n, .int .i64 (16777216 - n), .bool false, .bool false, .int .i64 a, .int .i64 n, .int .i64 p, .func (.func 17) #[] #[.pointer (some ⟨w.heap.size + 1, 0, none⟩), .pointer (some ⟨w.heap.size + 3, 0, none⟩), .pointer (some ⟨w.heap.size + 2, 0, none⟩)], spV s, undef, undef, undef, undef, undef], defers := [] })
    ?hMid ?assign ?body ?done ?stop
  case hT =>
    rintro W l o o' k hB hl ho (h | ⟨h1, v, h2, h3⟩)
    · exact .inl h
    · have hz := Hz.out
      exact .inr ⟨h1, v, (World.putObj_heap_other (by omega)).symm.trans h2, h3⟩
  case hPost =>
    intro x
    have hz := Hz.out
    exact firm_its _ _ _ _ _ _ _ _ _ (firm_cutI (by omega) _)
  case hStop => exact fun _ => Firm.pure _ _
  case hEnd =>
    have hz := Hz.out
    exact firm_cutI (by omega) _
  case hMid =>
    intro x a'
    have hz := Hz.out
    refine (firm_its _ _ _ _ _ _ _ _ _ (firm_cutI (by omega) _)).and (Firm.ex fun Bx => Firm.ex fun s => (Firm.pure _ _).and ((Firm.blk _ _ rfl).and (Firm.and ?_ ((Firm.pure _ _).and (Firm.pure _ _)))))
    rintro W l o o' hB hl ho h (h' | ⟨h1, v, h2, h3⟩)
    · exact h (.inl h')
    · exact h (.inr ⟨h1, v, (World.putObj_heap_other (by omega)).symm.trans h2, h3⟩)
  case hiter =>
    intro l Lp Lx W1 hLp hb hs1 hL hY
    have hz := Hz.out
    refine spans1_iter l Lp Lx hLp (w.heap.size + 1) (w.heap.size + 3) (w.heap.size + 2) (by omega) (by omega) (by omega) a n p hp hp2 (CutI (w.heap.size + 4) w.heap.size w) ?_ (CutT (w.heap.size + 4) w.heap.size) ?_ hY W1 ⟨below_blk hb x1 (by omega), below_blk hb x3 (by omega), below_blk hb x2 (by omega)⟩ ha (by omega) ?_ hL
    · rintro pre W W' ⟨⟨v, h1, h2⟩, h3, h4, h5⟩ hk
      exact ⟨⟨v, hk.blk h1 (by omega), own_keep h2 hk (fun k hk' => by have := (h2.lt k hk').1; omega)⟩, below_keep h3 hk h3.size (fun i hi => by omega), Nat.le_trans h4 hk.size, h5⟩
    · rintro pre W o ⟨⟨v, h1, h2⟩, h3, h4, h5⟩ (h | ⟨_, v', h6, h7⟩)
      · omega
      · have e := (blk_alloc h1 o).symm.trans h6
        simp at e
        subst e
        have := (h2.lt _ h7).2
        omega
    · exact ⟨⟨_, below_blk hb x0 (by omega), World.ownsRow_nil _ _ _ _⟩, b1.trans (hb.mono (by omega)), by omega, by simp⟩
  case assign =>
    intro l x W K hP hK
    obtain ⟨hst, h0, h1, h2, h3, ⟨v, i1, i2⟩, i3, i4, i5⟩ := hP
    have hz := Hz.out
    obtain ⟨s, hse⟩ : ∃ s, s = headS x.2.1 x.2.2 p := ⟨_, rfl⟩
    simp only [← hse, spV]
    have hW := Lib.hid hse
    have hnT : ∀ k, CutT (w.heap.size + 4) w.heap.size (W.alloc (.cells s.cells.toArray 29)) k → CutT (w.heap.size + 4) w.heap.size W k := by
      rintro k (h | ⟨_, v', h6, h7⟩)
      · exact .inl h
      · have e := (blk_alloc i1 _).symm.trans h6
        simp at e
        subst e
        exact .inr ⟨by assumption, v, i1, h7⟩
    have hnew : ¬ CutT (w.heap.size + 4) w.heap.size (W.alloc (.cells s.cells.toArray 29)) W.heap.size := by
      intro h
      rcases hnT _ h with h | ⟨_, v', h6, h7⟩
      · omega
      · have e := i1.symm.trans h6
        simp at e
        subst e
        have := (i2.lt _ h7).2
        omega
    have hfin := hK { tmps := #[.int .i64 a, .int .i64 n, .int .i64 p, undef, undef, undef, .slice none 0 0, .pointer (some ⟨w.heap.size, 0, none⟩), .pointer (some ⟨W.heap.size, 0, none⟩), .int .i64 a, .bool false, .bool false, .int .i64 n, .bool false, .bool false, .bool false, .int .i64 p, .bool false, .bool false, .bool false, .int .i64 n, .bool false, .bool false, .bool false, .int .i64 a, .int .i64 n, .int .i64 (16777216 - n), .bool false, .bool false, .int .i64 a, .int .i64 n, .int .i64 p, .func (.func 17) #[] #[.pointer (some ⟨w.heap.size + 1, 0, none⟩), .pointer (some ⟨w.heap.size + 3, 0, none⟩), .pointer (some ⟨w.heap.size + 2, 0, none⟩)], spV s, undef, undef, undef, undef, undef], defers := [] } (W.alloc (.cells s.cells.toArray 29))
      (KeepsOthers.alloc _ _) (KeepC.of_keep ((Keep.refl _ _).alloc _)) (fun k _ h => hnT k h)
      ⟨⟨⟨blk_alloc hst.1 _, blk_alloc hst.2.1 _, blk_alloc hst.2.2 _⟩, h0, h1, h2, h3, ⟨v, blk_alloc i1 _, i2.alloc _⟩, i3.alloc i3.size _, by simp; omega, i5⟩, W.heap.size, s, hW.out, blk_new _ _, hnew, by omega, rfl⟩
    have Hfin := Lib.hid hfin
    clear hfin hK hnT hnew hse
    gi_wp2_with fail
    exact Hfin.out
  case body =>
    rintro l x a' W ⟨⟨hst, h0, h1, h2, h3, ⟨v, i1, i2⟩, i3, i4, i5⟩, Bx, s, hse, hbx, hnT, hne, rfl⟩
    obtain ⟨i0, ei, ez0, ez1, ez2⟩ := info_parts Try.infoSpan
    have cL : W.cell? ⟨w.heap.size, 0, none⟩ = some v := blk_cell i1 0
    have cX0 : W.cell? ⟨Bx, 0, none⟩ = some (.int .i64 s.n) := blk_cell hbx 0
    have cX1 : W.cell? ⟨Bx, 1, none⟩ = some (.int .i64 s.at_) := blk_cell hbx 1
    have cX2 : W.cell? ⟨Bx, 2, none⟩ = some (.int .i64 s.len) := blk_cell hbx 2
    have Hse := Lib.hid hse
    clear hse hnT
    have hlen : x.1.length + 1 ≤ 16777216 := by
      have e := congrArg List.length h3
      rw [List.length_append, spans_cons x.2.1 x.2.2 p h0 hp, List.length_cons] at e
      have := spans_length a n p hn hp
      omega
    have hnews := new_cells W s.cells 29
    have Hn := Lib.hid hnews
    have H3 := Lib.hid h3
    have H1 := Lib.hid i1
    clear h3 hnews i1
    simp only [spV]
    gi_wp2_with (gi_at_builtin; refine wpListIn_append_own _ rfl _ _ 24 rfl (w.heap.size + 4) 29 i0 (.agg #[.int .i64 0, .int .i64 0, .int .i64 0]) 3 24 Try.underlying24 ei ez0 ez1 ez2 rfl (by decide) _ _ _ rfl (i2.alloc _) ⟨W.heap.size, 0, none⟩ 1 1 s.cells rfl rfl Hn.out (by simp [Sp.cells, Value.oneCell']) (by unfold maxLen; omega) (by omega) (by simp; omega) ?_; intro v' w2 hown' hgrow _; obtain ⟨g', cap', rfl⟩ := ownsRow_succ hown'; obtain ⟨e1, e2, e3, e4⟩ := box_append H1.out i2 (by omega) hgrow hown'; have c1 := blk_cell e1 0; have c2 := blk_frozen e1 0)
    have hi1 := H1.out
    have hS : ∀ i, (i = w.heap.size ∨ v.ownBlock = some i) → i = w.heap.size ∨ w.heap.size + 4 ≤ i := fun i h => h.imp id (fun h => (i2.lt i h).1)
    refine ⟨keepsOthers_of_keep e4 ?_, ⟨⟨e4.blk hst.1 (fun h => by have := hS _ h; omega), e4.blk hst.2.1 (fun h => by have := hS _ h; omega), e4.blk hst.2.2 (fun h => by have := hS _ h; omega)⟩, h0, h1, h2, H3.out, ⟨_, e2, ?_⟩, below_keep i3 e4 i3.size (fun i h => by have := hS _ h; omega), by have := e4.size; omega, by simp; omega⟩, KeepC.of_keep (e4.mono (fun i h => .inl (h.imp id (fun h => ⟨(i2.lt i h).1, v, hi1, h⟩))))⟩
    · rintro k o (h | h) ho
      · subst h
        rw [hi1] at ho
        cases ho
        rfl
      · exact own_isCells i2 h ho
    · rw [← Hse.out, flatS_snoc, List.length_append]
      exact e3
  case done =>
    rintro D W hD ⟨⟨v, i1, i2⟩, i3, i4, i5⟩ hK
    have hz := Hz.out
    have cL : W.cell? ⟨w.heap.size, 0, none⟩ = some v := blk_cell i1 0
    clear i1
    gi_wp2_with fail
    refine ⟨by simp, .inl ⟨_, _, rfl, run_takeDeferred hK, ?_⟩⟩
    exact ⟨_, results_tmp rfl _ _ _, _, rfl, own_weaken (ownsRow_putObj i2 _ hK rfl) (by omega), i3.trans (belowK_b (w := w1) (by omega) W D _ _ hD hK rfl rfl)⟩
  case stop =>
    rintro D c W _ h _
    exact h.elim
theorem cut_no (w : World) (a n p : Int) (h : a < 0 ∨ n < 0 ∨ p < 1 ∨ 16777216 < n ∨ 16777216 - n < a) :
    Calls Try.prog 9 #[.int .i64 a, .int .i64 n, .int .i64 p] w fun e w' => e = .returned (.slice none 0 0) ∧ w = w' := by
  by_cases h1 : a < 0
  · clear h
    go_enter Try.func9, Try.ntmps9
    go_wp2_with fail
    go_ret
    exact ⟨rfl, rfl⟩
  by_cases h2 : n < 0
  · clear h
    go_enter Try.func9, Try.ntmps9
    go_wp2_with fail
    go_ret
    exact ⟨rfl, rfl⟩
  by_cases h3 : p < 1
  · clear h
    go_enter Try.func9, Try.ntmps9
    go_wp2_with fail
    go_ret
    exact ⟨rfl, rfl⟩
  by_cases h4 : 16777216 < n
  · clear h
    go_enter Try.func9, Try.ntmps9
    go_wp2_with fail
    go_ret
    exact ⟨rfl, rfl⟩
  have h5 : 16777216 - n < a := by omega
  clear h
  go_enter Try.func9, Try.ntmps9
  go_wp2_with fail
  go_ret
  exact ⟨rfl, rfl⟩

theorem cut_any (w : World) (a n p : Int) (hp2 : p ≤ 9223372036854775807) :
    Calls Try.prog 9 #[.int .i64 a, .int .i64 n, .int .i64 p] w fun e w' => ∃ v, e = .returned v ∧ w'.ownsRow w.heap.size 29 3 v (cutS a n p).length (flatS (cutS a n p)) ∧ Below w.heap.size w w' := by
  unfold cutS
  by_cases h : a < 0 ∨ n < 0 ∨ p < 1 ∨ 16777216 < n ∨ 16777216 - n < a
  · rw [if_pos h]
    refine (cut_no w a n p h).mono ?_
    rintro e w' ⟨rfl, rfl⟩
    exact ⟨_, rfl, World.ownsRow_nil _ _ _ _, Below.refl _ _⟩
  · rw [if_neg h]
    exact cut_yes w a n p (by omega) (by omega) (by omega) hp2 (by omega) (by omega)
end Go.Proofs.Yteipffehpddmjaa
