/- Lists of whole numbers that are read: where they lie, what keeps them. -/
import Derived.Test.YtamaocdchlioaaaGrow
import Derived.Test.YtamaocdchlioaaaRows
namespace Go.Proofs.Ytamaocdchlioaaa
open Go.RowKit

/-- a list of whole numbers, by its value: nil or where it lies -/
def LV (B : Nat) (w : World) (v : Value) (l : List Int) : Prop := ∃ (a : Option Addr) (c : Nat), v = .slice a l.length c ∧ l.length ≤ c ∧ c ≤ maxLen ∧ ((a = none → c = 0) ∧ ∀ x, a = some x → B ≤ x.block) ∧ Reads .i64 w a l
theorem LV.keep {B : Nat} {w w' : World} {v : Value} {l : List Int} (h : LV B w v l) (k : Below w.heap.size w w') : LV B w' v l := by
  obtain ⟨a, c, h1, h2, h3, h4, h5⟩ := h
  exact ⟨a, c, h1, h2, h3, h4, h5.keep k⟩
def icells (l : List Int) : List Value := l.map (Value.int .i64)
theorem icells_one (l : List Int) : ∀ u ∈ icells l, u.oneCell' = true := by
  intro u hu
  simp only [icells, List.mem_map] at hu
  obtain ⟨x, _, rfl⟩ := hu
  rfl
theorem lv_readV {B : Nat} {w : World} {v : Value} {l : List Int} (h : LV B w v l) : ReadV w v l.length (icells l) := by
  obtain ⟨a, c, rfl, h2, _, h3, h4⟩ := h
  cases a with
  | none =>
    have h0 := h3.1 rfl
    have hl : l.length = 0 := by omega
    have : l = [] := List.eq_nil_of_length_eq_zero hl
    subst this
    subst h0
    exact .inl ⟨rfl, rfl, rfl⟩
  | some ad =>
    refine .inr ⟨ad, c, rfl, fun j u hj => ?_⟩
    rcases h4 with h | ⟨b, off, hb, h⟩
    · have : l = [] := List.eq_nil_of_length_eq_zero h
      subst this
      simp [icells] at hj
    · cases hb
      rw [WideShapes.add_plain]
      have hjl : j < l.length := by
        rcases Nat.lt_or_ge j l.length with h' | h'
        · exact h'
        · simp [icells, List.getElem?_eq_none h'] at hj
      rw [h j hjl]
      simp [icells, hjl] at hj
      simp [List.getD, hjl, hj]
theorem lv_of_own {B : Nat} {w : World} {base : Nat} {v : Value} {l : List Int} (h : w.ownsRow base 3 1 v l.length (icells l)) (hB : B ≤ base) : LV B w v l := by
  obtain ⟨h1, h2 | ⟨g, cap, cur, rfl, hb, hgg, hc, hm, hs, htake⟩⟩ := h
  · obtain ⟨rfl, h0⟩ := h2
    exact ⟨none, 0, by rw [h0], by omega, Nat.zero_le _, ⟨fun _ => rfl, nofun⟩, .inl h0⟩
  · refine ⟨_, cap, rfl, hc, hm, ⟨nofun, fun x hx => by cases hx; exact Nat.le_trans hB hb⟩, .inr ⟨g, 0, rfl, fun i hi => ?_⟩⟩
    have h' : w.ownsRow base 3 1 (.slice (some ⟨g, 0, none⟩) l.length cap) l.length (icells l) := ⟨h1, .inr ⟨g, cap, cur, rfl, hb, hgg, hc, hm, hs, htake⟩⟩
    have := h'.cells (g := g) rfl i (.int .i64 (l.getD i 0)) (by simp [icells, List.getD, hi])
    rw [WideShapes.add_plain] at this
    exact this
theorem LV.elem {B : Nat} {w : World} {v : Value} {l : List Int} (h : LV B w v l) {k : Nat} (hk : k < l.length) : ∃ b off c, v = .slice (some ⟨b, off, none⟩) l.length c ∧ ∀ wr, Below w.heap.size w wr → wr.cell? ⟨b, off + k, none⟩ = some (.int .i64 (l.getD k 0)) := by
  obtain ⟨a, c, rfl, _, _, _, h4⟩ := h
  obtain ⟨b, off, rfl, hx⟩ := h4.elems hk
  exact ⟨b, off, c, rfl, hx⟩
theorem lv_nil (B : Nat) (w : World) : LV B w (.slice none 0 0) [] := ⟨none, 0, rfl, Nat.le_refl _, Nat.zero_le _, ⟨fun _ => rfl, nofun⟩, .inl rfl⟩
theorem Try.infoI : (Try.prog.info? 3).map (fun i => (i.zero, i.size, i.bytes)) = some (some (.int .i64 0), 1, 8) := by kernel_rfl

theorem own_set {w : World} {base g n cap i : Nat} {l : List Int} (x : Int) (h : w.ownsRow base 3 1 (.slice (some ⟨g, 0, none⟩) n cap) n (icells l)) :
    (w.setCell ⟨g, i, none⟩ (.int .i64 x)).ownsRow base 3 1 (.slice (some ⟨g, 0, none⟩) n cap) n (icells (l.set i x)) := by
  obtain ⟨h1, h2 | ⟨g', cap', cur, e, hb, hgg, hc, hm, hs, htake⟩⟩ := h
  · obtain ⟨h2, _⟩ := h2; cases h2
  · cases e
    refine ⟨by simpa [icells] using h1, .inr ⟨g, cap, cur.setIfInBounds i (.int .i64 x), rfl, hb, blk_set hgg i _, hc, hm, by simpa using hs, ?_⟩⟩
    rw [Array.toList_setIfInBounds, List.take_set, htake]
    simp [icells, List.map_set]

theorem own_frozen {w : World} {base g n cap : Nat} {e : TypeId} {size : Nat} {xs : List Value} (h : w.ownsRow base e size (.slice (some ⟨g, 0, none⟩) n cap) n xs) (i : Nat) : w.frozen? ⟨g, i, none⟩ = false := by
  obtain ⟨h1, h2 | ⟨g', cap', cur, e, hb, hgg, _⟩⟩ := h
  · obtain ⟨h2, _⟩ := h2; cases h2
  · cases e
    exact blk_frozen hgg i
theorem own_head {w : World} {B n : Nat} {v : Value} {l : List Int} (h : w.ownsRow B 3 1 v n (icells l)) (h0 : 0 < n) (hn : l.length = n) : ∃ g cap, v = .slice (some ⟨g, 0, none⟩) n cap ∧ B ≤ g ∧ n ≤ cap ∧ cap ≤ 9223372036854775807 ∧ (∀ i, i < n → w.cell? ⟨g, i, none⟩ = some (.int .i64 (l.getD i 0))) ∧ ∀ i, w.frozen? ⟨g, i, none⟩ = false := by
  obtain ⟨g, cap, rfl, hg, _, hc, hm, hx⟩ := own_reads h h0
  exact ⟨g, cap, rfl, hg, hc, hm, fun i hi => hx i _ (by simp [icells, List.getD, hn, hi]), own_frozen h⟩

theorem lv_keep1 {B : Nat} {w w' : World} {v : Value} {l : List Int} {g : Nat} {cs : Array Value} {t : TypeId} (h : LV B w v l) (k : Keep (fun i => i = g) w w') (hb : w.heap[g]? = some (.cells cs t (0, 0))) (hc : ∀ (i : Nat) (x : Int), cs[i]? ≠ some (Value.int .i64 x)) : LV B w' v l := by
  obtain ⟨a, c, h1, h2, h3, h4, h5⟩ := h
  refine ⟨a, c, h1, h2, h3, h4, ?_⟩
  rcases h5 with h5 | ⟨b, off, ha, h5⟩
  · exact .inl h5
  · refine .inr ⟨b, off, ha, fun i hi => ?_⟩
    have h6 := h5 i hi
    have hne : b ≠ g := by
      rintro rfl
      rw [blk_cell hb] at h6
      exact hc _ _ h6
    have hlt := World.block_lt_of_cell? w _ h6
    have e := k.block b hlt hne
    rw [← h6]
    simp only [World.cell?, e]
theorem lv_tail {B : Nat} {w : World} {b off c : Nat} {x : Int} {l : List Int} (h : Reads .i64 w (some ⟨b, off, none⟩) (x :: l)) (hc : l.length + 1 ≤ c) (hm : c ≤ maxLen) (hb : B ≤ b) : LV B w (.slice (some ⟨b, off + 1, none⟩) l.length (c - 1)) l := by
  refine ⟨_, _, rfl, by omega, by omega, ⟨nofun, fun x hx => by cases hx; exact hb⟩, ?_⟩
  rcases h with h | ⟨b', off', e, h⟩
  · simp at h
  · cases e
    refine .inr ⟨b, off + 1, rfl, fun i hi => ?_⟩
    have := h (i + 1) (by simp; omega)
    rw [show off + 1 + i = off + (i + 1) from by omega]
    simpa using this
theorem own_one (w : World) (B : Nat) (x : Int) (hb : B ≤ w.heap.size) : (w.alloc (.cells #[.int .i64 x] 3)).ownsRow B 3 1 (.slice (some ⟨w.heap.size, 0, none⟩) 1 1) 1 (icells [x]) :=
  ⟨rfl, .inr ⟨w.heap.size, 1, #[.int .i64 x], rfl, hb, blk_new _ _, Nat.le_refl _, by unfold maxLen; omega, rfl, rfl⟩⟩

theorem LV.keepS {S : Nat → Prop} {B : Nat} {w w' : World} {v : Value} {l : List Int} (h : LV B w v l) (k : Keep S w w') (hS : ∀ i, B ≤ i → ¬ S i) : LV B w' v l := by
  obtain ⟨a, c, h1, h2, h3, h4, h5⟩ := h
  refine ⟨a, c, h1, h2, h3, h4, ?_⟩
  rcases h5 with h5 | ⟨b, off, ha, h5⟩
  · exact .inl h5
  · refine .inr ⟨b, off, ha, fun i hi => ?_⟩
    have h6 := h5 i hi
    have hlt := World.block_lt_of_cell? w _ h6
    have e := k.block b hlt (hS b (h4.2 _ ha))
    rw [← h6]
    simp only [World.cell?, e]

theorem below_drew {B : Nat} {w W : World} (h : Below B w W) : Below B w W.drew := ⟨h.os, h.tape, h.output, h.size, h.block⟩
theorem below1 {B : Nat} {w W : World} (h : Below B w W) {g : Nat} (hg : B ≤ g) (hB : B ≤ W.heap.size) (j : Nat) (u : Value) : Below B w (W.setCell ⟨g, j, none⟩ u) :=
  below_keep h ((Keep.refl (fun i => i = g) W).setCell (.inl rfl) u) hB (fun i hi => by omega)

theorem below_of_keepF {w w' : World} (k : Keep (fun _ => False) w w') : Below w.heap.size w w' := k.below (fun _ _ h => h)
end Go.Proofs.Ytamaocdchlioaaa
