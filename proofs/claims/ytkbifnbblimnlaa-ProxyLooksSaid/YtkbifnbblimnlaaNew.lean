/- The contract of proxy.New; a table as generations, lives and free slots. -/
import Derived.Test.YtkbifnbblimnlaaTake
namespace Go.Proofs.Ytkbifnbblimnlaa
open Go.RowKit
set_option linter.unusedVariables false

def gnK (k : Nat) : Nat → Int := fun j => if j < k then 1 else 0
def nxK (k : Nat) : Nat → Int := fun j => if j < k then (j : Int) + 1 else 0
def wh0 : Nat → Int := fun _ => 0
theorem wh0_upd (k : Nat) : upd wh0 k 0 = wh0 := by funext j; unfold upd wh0; split <;> rfl
theorem gnK_succ (k : Nat) : upd (gnK k) k 1 = gnK (k + 1) := by
  funext j; unfold upd gnK
  by_cases h : j = k
  · rw [if_pos h, if_pos (by omega)]
  · rw [if_neg h]
    by_cases h2 : j < k
    · rw [if_pos h2, if_pos (by omega)]
    · rw [if_neg h2, if_neg (by omega)]
theorem nxK_succ (k : Nat) : upd (nxK k) k (k + 1) = nxK (k + 1) := by
  funext j; unfold upd nxK
  by_cases h : j = k
  · subst h; rw [if_pos rfl, if_pos (by omega)]
  · rw [if_neg h]
    by_cases h2 : j < k
    · rw [if_pos h2, if_pos (by omega)]
    · rw [if_neg h2, if_neg (by omega)]

theorem new_bad (w : World) (n g : Int) (h : n < 1 ∨ 4096 < n ∨ g < 1 ∨ 1023 < g) : Calls Try.prog 15 #[.int .i64 n, .int .i64 g] w fun e w' => e = .returned (.tuple #[.pointer none, .int .i64 1]) ∧ w = w' := by
  by_cases h1 : n < 1
  · clear h
    go_enter Try.func15, Try.ntmps15
    go_wp2_with fail
    go_ret2
    exact ⟨rfl, rfl⟩
  by_cases h2 : 4096 < n
  · clear h
    go_enter Try.func15, Try.ntmps15
    go_wp2_with fail
    go_ret2
    exact ⟨rfl, rfl⟩
  by_cases h3 : g < 1
  · clear h
    go_enter Try.func15, Try.ntmps15
    go_wp2_with fail
    go_ret2
    exact ⟨rfl, rfl⟩
  have h4 : 1023 < g := by omega
  clear h
  go_enter Try.func15, Try.ntmps15
  go_wp2_with fail
  go_ret2
  exact ⟨rfl, rfl⟩
theorem Try.infoSlot : (Try.prog.info? 63).map (fun i => (i.zero, i.size, i.bytes)) = some (some (.agg #[.int .i64 0, .int .i64 0, .int .i64 0]), 3, 24) := by kernel_rfl
theorem make_row (w : World) (n : Nat) (h : n ≤ 4096) : ∃ cs : Array Value, (∀ (kl kc : IntKind), (Instr.makeSlice 58 (.int kl n) (.int kc n)).run Try.prog w = .ok (.slice (some ⟨w.heap.size, 0, none⟩) n n) (w.alloc (.cells cs 63))) ∧ cs.size = n * 3 ∧ ∀ i, i < n * 3 → cs[i]? = some (.int .i64 0) := by
  obtain ⟨i0, ei, ez0, ez1, ez2⟩ := info_parts Try.infoSlot
  refine ⟨madeCells #[.int .i64 0, .int .i64 0, .int .i64 0] (n * 3), fun kl kc => ?_, ?_, ?_⟩
  · have := run_make (P := Try.prog) w 58 63 i0 _ Try.underlying58 ei ez0 kl kc n n (by omega) (Int.le_refl _) (by rw [ez2]; omega) (by omega)
    rw [ez1] at this
    simpa [Value.cells] using this
  · simp [madeCells]
  · intro i hi
    simp [madeCells, hi]
    rcases (show i % 3 = 0 ∨ i % 3 = 1 ∨ i % 3 = 2 from by omega) with h | h | h <;> rw [h] <;> rfl
set_option maxHeartbeats 2000000 in
theorem new_any (w : World) (n : Nat) (g : Int) (h1 : 1 ≤ n) (h2 : n ≤ 4096) (h3 : 1 ≤ g) (h4 : g ≤ 1023) : Calls Try.prog 15 #[.int .i64 n, .int .i64 g] w fun e w' => ∃ gt gs, e = .returned (.tuple #[ptr gt, .int .i64 0]) ∧ w.heap.size ≤ gt ∧ w.heap.size ≤ gs ∧ TS w' gt gs n g wh0 (gnK n) (nxK n) 0 n 0 0 ∧ Below w.heap.size w w' := by
  obtain ⟨cs, hmk, hs, hc⟩ := make_row w n h2
  have HR := Lib.hid (row_new w cs 63 (tf wh0 (gnK 0) (nxK 0)) (n * 3) hs (fun i hi => by rw [hc i hi]; unfold tf wh0 gnK nxK; split <;> simp))
  have HT : Hid (TS ((w.alloc (.cells cs 63)).alloc (.cells #[.slice (some ⟨w.heap.size, 0, none⟩) n n, .int .i64 g, .int .i64 0, .int .i64 0, .int .i64 0, .int .i64 0] 61)) (w.heap.size + 1) w.heap.size n g wh0 (gnK 0) (nxK 0) 0 0 0 0) := Lib.hid (by
    refine ⟨?_, ?_, by omega, h2⟩
    · have := blk_new (w.alloc (.cells cs 63)) (.cells #[.slice (some ⟨w.heap.size, 0, none⟩) n n, .int .i64 g, .int .i64 0, .int .i64 0, .int .i64 0, .int .i64 0] 61)
      simpa using this
    · obtain ⟨cs', q1, q2, q3⟩ := HR.out
      exact ⟨cs', blk_alloc q1 _, q2, q3⟩)
  have HB : Hid (Below w.heap.size w ((w.alloc (.cells cs 63)).alloc (.cells #[.slice (some ⟨w.heap.size, 0, none⟩) n n, .int .i64 g, .int .i64 0, .int .i64 0, .int .i64 0, .int .i64 0] 61))) := Lib.hid (((Below.refl _ _).alloc (Nat.le_refl _) _).alloc (by simp) _)
  have c0 := blk_cell HT.out.1 0
  clear hc hs
  go_enter Try.func15, Try.ntmps15
  go_wp2_with fail
  go_loopw [32] (fun v wr => ∃ k : Nat, v = .int .i64 k ∧ k ≤ n ∧ TS wr (w.heap.size + 1) w.heap.size n g wh0 (gnK k) (nxK k) 0 0 0 0 ∧ Below w.heap.size w wr) (fun v _ => n - (intOf v).toNat)
  case atStart => exact ⟨0, rfl, Nat.zero_le _, HT.out, HB.out⟩
  case round =>
    obtain ⟨k, rfl, hk, ht, br⟩ := hrel
    have c0' := blk_cell ht.1 0
    have c3' := blk_cell ht.1 3
    have f3' := blk_frozen ht.1 3
    have HT1 := Lib.hid ht
    have Hbr := Lib.hid br
    clear c0
    by_cases hlt : k < n
    · have x0 := row_cell (i := k * 3) ht.2.1 (by omega)
      have x1 := row_cell (i := k * 3 + 1) ht.2.1 (by omega)
      have x2 := row_cell (i := k * 3 + 2) ht.2.1 (by omega)
      have y0 := row_frozen ht.2.1 (k * 3)
      have y1 := row_frozen ht.2.1 (k * 3 + 1)
      have y2 := row_frozen ht.2.1 (k * 3 + 2)
      rw [tf_wh] at x0
      rw [tf_gn] at x1
      rw [tf_nx] at x2
      have hg : w.heap.size + 1 ≠ w.heap.size := by omega
      have hnew : TS (((wr.setCell ⟨w.heap.size, k * 3, none⟩ (.int .i64 0)).setCell ⟨w.heap.size, k * 3 + 1, none⟩ (.int .i64 1)).setCell ⟨w.heap.size, k * 3 + 2, none⟩ (.int .i64 ((k : Int) + 1))) (w.heap.size + 1) w.heap.size n g wh0 (gnK (k + 1)) (nxK (k + 1)) 0 0 0 0 := by
        refine ⟨blk_far (p := ⟨w.heap.size, k * 3 + 2, none⟩) (blk_far (p := ⟨w.heap.size, k * 3 + 1, none⟩) (blk_far (p := ⟨w.heap.size, k * 3, none⟩) ht.1 hg _) hg _) hg _, ?_, hg, h2⟩
        rw [← gnK_succ, ← nxK_succ]
        conv => arg 4; rw [← wh0_upd k]
        exact row_ext (row_set (row_set (row_set ht.2.1 (k * 3) (.int .i64 0)) (k * 3 + 1) (.int .i64 1)) (k * 3 + 2) (.int .i64 ((k : Int) + 1))) (fun j _ => by simp only [tf_set_wh, tf_set_gn, tf_set_nx])
      have Hnew := Lib.hid hnew
      have Hb3 := Lib.hid (below1 (below1 (below1 br (Nat.le_refl _) br.size (k * 3) (.int .i64 0)) (Nat.le_refl _) (by simp; exact br.size) (k * 3 + 1) (.int .i64 1)) (Nat.le_refl _) (by simp; exact br.size) (k * 3 + 2) (.int .i64 ((k : Int) + 1)))
      clear ht br hnew
      go_wp2_with fail
      go_roundw
      case rel => exact ⟨k + 1, by go_num, hlt, Hnew.out, Hb3.out⟩
      case measure => simp [intOf]; omega
    · obtain rfl : k = n := by omega
      clear ht br
      go_wp2_with fail
      go_ret2
      refine ⟨w.heap.size + 1, w.heap.size, rfl, by omega, by omega, ⟨by simpa using blk_set HT1.out.1 3 (.int .i64 k), row_far (p := ⟨w.heap.size + 1, 3, none⟩) HT1.out.2.1 (by simp) _, by omega, h2⟩, ?_⟩
      exact below1 Hbr.out (by omega) Hbr.out.size 3 _

/-- the free slots, one ahead of the other -/
def Chain (nx : Nat → Int) (n : Nat) : Int → List Nat → Prop
  | h, [] => h = n
  | h, f :: fs => h = f ∧ Chain nx n (nx f) fs
theorem chain_upd (nx : Nat → Int) (n : Nat) (i : Nat) (v : Int) : ∀ (fr : List Nat) (h : Int), i ∉ fr → Chain nx n h fr → Chain (upd nx i v) n h fr := by
  intro fr
  induction fr with
  | nil => intro h _ hc; exact hc
  | cons f fs ih =>
    intro h hi hc
    simp only [List.mem_cons, not_or] at hi
    refine ⟨hc.1, ?_⟩
    have : upd nx i v f = nx f := by unfold upd; rw [if_neg (fun e => hi.1 e.symm)]
    rw [this]
    exact ih _ hi.2 hc.2
theorem chain_range (n : Nat) : ∀ (m k : Nat), k + m = n → Chain (nxK n) n k (List.range' k m) := by
  intro m
  induction m with
  | zero => intro k h; show (k : Int) = n; omega
  | succ m ih =>
    intro k h
    rw [List.range'_succ]
    refine ⟨rfl, ?_⟩
    have : nxK n k = ((k + 1 : Nat) : Int) := by unfold nxK; rw [if_pos (by omega)]; rfl
    rw [this]
    exact ih (k + 1) (by omega)

def updB (f : Nat → Bool) (i : Nat) (b : Bool) : Nat → Bool := fun j => if j = i then b else f j
def lives (lv : Nat → Bool) : Nat → Nat
  | 0 => 0
  | k + 1 => lives lv k + (if lv k then 1 else 0)
theorem lives_far (lv : Nat → Bool) (i : Nat) (b : Bool) : ∀ n, n ≤ i → lives (updB lv i b) n = lives lv n
  | 0, _ => rfl
  | k + 1, h => by
    simp only [lives]
    rw [lives_far lv i b k (by omega)]
    have : updB lv i b k = lv k := by unfold updB; rw [if_neg (by omega)]
    rw [this]
theorem lives_upd (lv : Nat → Bool) (i : Nat) (b : Bool) : ∀ n, i < n → lives (updB lv i b) n + (if lv i then 1 else 0) = lives lv n + (if b then 1 else 0)
  | 0, h => absurd h (Nat.not_lt_zero _)
  | k + 1, h => by
    simp only [lives]
    by_cases e : i = k
    · subst e
      rw [lives_far lv i b i (Nat.le_refl _)]
      have : updB lv i b i = b := by unfold updB; rw [if_pos rfl]
      rw [this]
      omega
    · have ih := lives_upd lv i b k (by omega)
      have : updB lv i b k = lv k := by unfold updB; rw [if_neg (fun h => e h.symm)]
      rw [this]
      omega
/-- what a slot is: live, free, or over -/
def whF (lv : Nat → Bool) (fr : List Nat) (i : Nat) : Int := if lv i then 1 else if i ∈ fr then 0 else 2
structure Inv (n : Nat) (gens : Int) (gn : Nat → Int) (lv : Nat → Bool) (fr : List Nat) : Prop where
  nodup : fr.Nodup
  free : ∀ f, f ∈ fr → f < n ∧ lv f = false ∧ gn f ≤ gens
  live : ∀ i, i < n → lv i = true → gn i ≤ gens
  pos : ∀ i, i < n → 1 ≤ gn i
  g1 : 1 ≤ gens
  g2 : gens ≤ 1023
def TA (w : World) (g gs n : Nat) (gens : Int) (gn : Nat → Int) (lv : Nat → Bool) (fr : List Nat) : Prop :=
  Inv n gens gn lv fr ∧ ∃ wh nx head, ∃ m2 : Nat, TS w g gs n gens wh gn nx head fr.length (lives lv n) m2 ∧ fr.length + lives lv n + m2 = n ∧ Chain nx n head fr ∧ ∀ i, i < n → wh i = whF lv fr i
theorem TA.keep {S : Nat → Prop} {w w' : World} {g gs n : Nat} {gens : Int} {gn : Nat → Int} {lv : Nat → Bool} {fr : List Nat} (h : TA w g gs n gens gn lv fr) (k : Keep S w w') (h1 : ¬ S g) (h2 : ¬ S gs) : TA w' g gs n gens gn lv fr := by
  obtain ⟨a, wh, nx, head, m2, b, c⟩ := h
  exact ⟨a, wh, nx, head, m2, b.keep k h1 h2, c⟩
theorem TA.below {w w' : World} {g gs n : Nat} {gens : Int} {gn : Nat → Int} {lv : Nat → Bool} {fr : List Nat} (h : TA w g gs n gens gn lv fr) (k : Below w.heap.size w w') : TA w' g gs n gens gn lv fr :=
  h.keep (S := fun _ => False) (Keep.of_below k) (fun h => h) (fun h => h)
theorem TA.lt {w : World} {g gs n : Nat} {gens : Int} {gn : Nat → Int} {lv : Nat → Bool} {fr : List Nat} (h : TA w g gs n gens gn lv fr) : g < w.heap.size ∧ gs < w.heap.size := by
  obtain ⟨_, _, _, _, _, b, _⟩ := h
  exact ⟨blk_lt b.1, row_lt b.2.1⟩
theorem lives_none (n : Nat) : lives (fun _ => false) n = 0 := by
  induction n with
  | zero => rfl
  | succ n ih => simp [lives, ih]
theorem ta_new (w : World) (n : Nat) (g : Int) (h1 : 1 ≤ n) (h2 : n ≤ 4096) (h3 : 1 ≤ g) (h4 : g ≤ 1023) : Calls Try.prog 15 #[.int .i64 n, .int .i64 g] w fun e w' => ∃ gt gs, e = .returned (.tuple #[ptr gt, .int .i64 0]) ∧ w.heap.size ≤ gt ∧ w.heap.size ≤ gs ∧ TA w' gt gs n g (fun i => if i < n then 1 else 0) (fun _ => false) (List.range n) ∧ Below w.heap.size w w' := by
  refine (new_any w n g h1 h2 h3 h4).mono ?_
  rintro e w' ⟨gt, gs, he, a, b, ht, hb⟩
  refine ⟨gt, gs, he, a, b, ⟨⟨List.nodup_range, fun f hf => ?_, fun i hi h => by simp at h, fun i hi => by simp [hi], h3, h4⟩, wh0, nxK n, 0, 0, ?_, ?_, ?_, fun i hi => ?_⟩, hb⟩
  · have : f < n := by simpa using hf
    exact ⟨this, rfl, by simp [this]; omega⟩
  · rw [lives_none, List.length_range]
    exact ht
  · rw [lives_none, List.length_range]; omega
  · rw [List.range_eq_range']
    exact chain_range n n 0 (by omega)
  · unfold wh0 whF
    simp [hi]
theorem ta_left (w : World) (g gs n : Nat) (gens : Int) (gn : Nat → Int) (lv : Nat → Bool) (fr : List Nat) (h : TA w g gs n gens gn lv fr) : Calls Try.prog 12 #[ptr g] w fun e w' => e = .returned (.int .i64 fr.length) ∧ w = w' := by
  obtain ⟨a, wh, nx, head, m2, b, c⟩ := h
  exact left_any w g gs n gens wh gn nx head _ _ _ b
theorem ta_live (w : World) (g gs n : Nat) (gens : Int) (gn : Nat → Int) (lv : Nat → Bool) (fr : List Nat) (h : TA w g gs n gens gn lv fr) : Calls Try.prog 13 #[ptr g] w fun e w' => e = .returned (.int .i64 (lives lv n)) ∧ w = w' := by
  obtain ⟨a, wh, nx, head, m2, b, c⟩ := h
  exact live_any w g gs n gens wh gn nx head _ _ _ b
theorem look_congr {n : Nat} {lv lv' : Nat → Bool} {gn : Nat → Int} {h : Int} (e : ∀ i, i < n → lv i = lv' i) : lookS n lv gn h = lookS n lv' gn h := by
  by_cases h1 : h < 4096 ∨ 4194304 ≤ h
  · rw [lookS_out h1, lookS_out h1]
  · by_cases h2 : (n : Int) ≤ h % 4096
    · rw [lookS_far h1 h2, lookS_far h1 h2]
    · obtain ⟨s, hs⟩ : ∃ s : Nat, h % 4096 = s := ⟨(h % 4096).toNat, by omega⟩
      rw [lookS_in h1 hs (by omega), lookS_in h1 hs (by omega), e s (by omega)]
theorem wh_live {lv : Nat → Bool} {fr : List Nat} {i : Nat} : (whF lv fr i == 1) = lv i := by
  unfold whF
  cases lv i
  · by_cases h : i ∈ fr <;> simp [h]
  · simp
theorem ta_look (w : World) (g gs n : Nat) (gens : Int) (gn : Nat → Int) (lv : Nat → Bool) (fr : List Nat) (h : Int) (ht : TA w g gs n gens gn lv fr) (hl : -9223372036854775808 ≤ h ∧ h ≤ 9223372036854775807) :
    Calls Try.prog 10 #[ptr g, .int .i64 h] w fun e w' => e = .returned (.tuple #[.int .i64 (lookS n lv gn h).1, .int .i64 (lookS n lv gn h).2]) ∧ Below w.heap.size w w' := by
  obtain ⟨a, wh, nx, head, m2, b, c, d, e⟩ := ht
  have := look_any w g gs n gens wh gn nx head _ _ _ h b hl
  rw [look_congr (lv' := lv) (fun i hi => by rw [e i hi, wh_live])] at this
  exact this
end Go.Proofs.Ytkbifnbblimnlaa
