/- Lemmas on worlds, said of blocks: what a call keeps, what a block holds behind a store, a draw, a new block. No program in sight. -/
import Derived.WalkKit
import Derived.WalkSpells
import Derived.WalkLawsBesides
import Derived.Handy
import Derived.BigQuiet
import Derived.Deep.Draws
import Derived.Deep.QuietTactic
import Derived.Deep.RegionWith
import Derived.Deep.RegionHeld3
import Derived.StillTailTactics
import Derived.Lib.Hide
namespace Go.Proofs.Ytamaocdchlioaaa
open Go.RowKit

/-- All blocks that were there are as they were, but those of S. -/
structure Keep (S : Nat → Prop) (w w' : World) : Prop where
  os : w'.os = w.os
  tape : w'.tape = w.tape
  output : w'.output = w.output
  size : w.heap.size ≤ w'.heap.size
  block : ∀ k, k < w.heap.size → ¬ S k → w'.heap[k]? = w.heap[k]?

theorem Keep.refl (S : Nat → Prop) (w : World) : Keep S w w := ⟨rfl, rfl, rfl, Nat.le_refl _, fun _ _ _ => rfl⟩
theorem Keep.trans {S : Nat → Prop} {a b c : World} (h : Keep S a b) (k : Keep S b c) : Keep S a c :=
  ⟨k.os.trans h.os, k.tape.trans h.tape, k.output.trans h.output, Nat.le_trans h.size k.size, fun i hi hs => (k.block i (Nat.lt_of_lt_of_le hi h.size) hs).trans (h.block i hi hs)⟩
/-- a second step that keeps all that was there at the first, but S and what is new -/
theorem Keep.then {S T : Nat → Prop} {a b c : World} (h : Keep S a b) (k : Keep T b c) (hT : ∀ i, T i → S i ∨ a.heap.size ≤ i) : Keep S a c :=
  ⟨k.os.trans h.os, k.tape.trans h.tape, k.output.trans h.output, Nat.le_trans h.size k.size, fun i hi hs => (k.block i (Nat.lt_of_lt_of_le hi h.size) (fun ht => by rcases hT i ht with h1 | h1; exact hs h1; omega)).trans (h.block i hi hs)⟩
theorem Keep.mono {S T : Nat → Prop} {a b : World} (h : Keep S a b) (hT : ∀ i, S i → T i ∨ a.heap.size ≤ i) : Keep T a b :=
  ⟨h.os, h.tape, h.output, h.size, fun i hi hs => h.block i hi (fun hS => by rcases hT i hS with h1 | h1; exact hs h1; omega)⟩
theorem Keep.drew {S : Nat → Prop} {a w : World} (h : Keep S a w) : Keep S a w.drew := ⟨h.os, h.tape, h.output, h.size, h.block⟩
theorem Keep.drewN {S : Nat → Prop} {a w : World} (h : Keep S a w) (n : Nat) : Keep S a (w.drewN n) := ⟨h.os, h.tape, h.output, h.size, h.block⟩
theorem Keep.alloc {S : Nat → Prop} {a w : World} (h : Keep S a w) (o : Obj) : Keep S a (w.alloc o) :=
  ⟨h.os, h.tape, h.output, by have := h.size; simp; omega, fun i hi hs => (Below.heap_alloc w o i (Nat.lt_of_lt_of_le hi h.size)).trans (h.block i hi hs)⟩
theorem Keep.setCell {S : Nat → Prop} {a w : World} (h : Keep S a w) {p : Addr} (hp : S p.block ∨ a.heap.size ≤ p.block) (u : Value) : Keep S a (w.setCell p u) :=
  ⟨h.os, h.tape, h.output, by have := h.size; simp; omega, fun i hi hs => (Below.heap_setCell w p u i (fun e => by subst e; rcases hp with h1 | h1; exact hs h1; omega)).trans (h.block i hi hs)⟩
theorem Keep.grown {S : Nat → Prop} {a w w' : World} {row : Option Nat} (h : Keep S a w) (hg : w.grownBy w' row) (hr : ∀ k, row = some k → S k ∨ a.heap.size ≤ k) : Keep S a w' :=
  ⟨hg.os.trans h.os, hg.tape.trans h.tape, hg.output.trans h.output, Nat.le_trans h.size hg.size, fun i hi hs => (hg.block i (Nat.lt_of_lt_of_le hi h.size) (fun e => by rcases hr i e.symm with h1 | h1; exact hs h1; omega)).trans (h.block i hi hs)⟩
theorem Keep.below {S : Nat → Prop} {a w : World} (h : Keep S a w) (hS : ∀ k, k < a.heap.size → ¬ S k) : Below a.heap.size a w := ⟨h.os, h.tape, h.output, h.size, fun k hk => h.block k hk (hS k hk)⟩
theorem Keep.of_below {S : Nat → Prop} {a w : World} (h : Below a.heap.size a w) : Keep S a w := ⟨h.os, h.tape, h.output, h.size, fun k hk _ => h.block k hk⟩
theorem below_keep {B : Nat} {S : Nat → Prop} {a b w : World} (h : Below B a b) (k : Keep S b w) (hB : B ≤ b.heap.size) (hS : ∀ i, S i → B ≤ i) : Below B a w :=
  h.trans ⟨k.os, k.tape, k.output, k.size, fun i hi => k.block i (Nat.lt_of_lt_of_le hi hB) (fun hs => by have := hS i hs; omega)⟩

theorem below_after {B : Nat} {a b c : World} (h : Below B a b) (k : Below b.heap.size b c) (hB : B ≤ b.heap.size) : Below B a c := h.trans (k.mono hB)

theorem calls_below {P : Program} {f : FuncId} {args : Array Value} {w : World} {x : Ending} (h : Calls P f args w fun e w' => e = x ∧ w = w') : Calls P f args w fun e w' => e = x ∧ Below w.heap.size w w' :=
  h.mono fun _ _ h => ⟨h.1, by rw [← h.2]; exact Below.refl _ _⟩

theorem blk_lt {w : World} {g : Nat} {o : Obj} (h : w.heap[g]? = some o) : g < w.heap.size := (Array.getElem?_eq_some_iff.1 h).1
theorem Keep.blk {S : Nat → Prop} {a w : World} (h : Keep S a w) {g : Nat} {o : Obj} (hb : a.heap[g]? = some o) (hS : ¬ S g) : w.heap[g]? = some o := (h.block g (blk_lt hb) hS).trans hb
theorem below_blk {B : Nat} {a w : World} (h : Below B a w) {g : Nat} {o : Obj} (hb : a.heap[g]? = some o) (hg : g < B) : w.heap[g]? = some o := (h.block g hg).trans hb
theorem blk_cell {w : World} {g : Nat} {t : TypeId} {cs : Array Value} (h : w.heap[g]? = some (.cells cs t (0, 0))) (i : Nat) : w.cell? ⟨g, i, none⟩ = cs[i]? := cell_of_row w g i cs t (0, 0) h
theorem blk_frozen {w : World} {g : Nat} {t : TypeId} {cs : Array Value} (h : w.heap[g]? = some (.cells cs t (0, 0))) (i : Nat) : w.frozen? ⟨g, i, none⟩ = false := by simp [World.frozen?, h]
theorem blk_set {w : World} {g : Nat} {t : TypeId} {cs : Array Value} (h : w.heap[g]? = some (.cells cs t (0, 0))) (i : Nat) (u : Value) : (w.setCell ⟨g, i, none⟩ u).heap[g]? = some (.cells (cs.setIfInBounds i u) t (0, 0)) := by
  have hlt := blk_lt h
  have h' : w.heap[g] = .cells cs t (0, 0) := by simpa [Array.getElem?_eq_getElem hlt] using h
  show (w.heap.modify g _)[g]? = _
  rw [Array.getElem?_eq_getElem (by simpa using hlt), Array.getElem_modify_self, h']
  rfl
theorem blk_far {w : World} {g : Nat} {o : Obj} (h : w.heap[g]? = some o) {p : Addr} (hp : g ≠ p.block) (u : Value) : (w.setCell p u).heap[g]? = some o := (Below.heap_setCell w p u g hp).trans h
theorem blk_alloc {w : World} {g : Nat} {o : Obj} (h : w.heap[g]? = some o) (o' : Obj) : (w.alloc o').heap[g]? = some o := (Below.heap_alloc w o' g (blk_lt h)).trans h
theorem blk_drew {w : World} {g : Nat} {o : Obj} (h : w.heap[g]? = some o) : w.drew.heap[g]? = some o := h
theorem blk_drewN {w : World} {g : Nat} {o : Obj} (h : w.heap[g]? = some o) (n : Nat) : (w.drewN n).heap[g]? = some o := h
theorem blk_new (w : World) (o : Obj) : (w.alloc o).heap[w.heap.size]? = some o := heap_alloc_new w o

theorem own_keep {S : Nat → Prop} {w w' : World} {base : Nat} {e : TypeId} {size n : Nat} {v : Value} {xs : List Value} (h : w.ownsRow base e size v n xs) (hk : Keep S w w') (hS : ∀ k, v.ownBlock = some k → ¬ S k) : w'.ownsRow base e size v n xs := by
  refine ⟨h.1, ?_⟩
  rcases h.2 with hn | ⟨g, cap, cur, rfl, hb, hgg, rest⟩
  · exact .inl hn
  · exact .inr ⟨g, cap, cur, rfl, hb, hk.blk hgg (hS g rfl), rest⟩
theorem own_weaken {w : World} {base base' : Nat} {e : TypeId} {size n : Nat} {v : Value} {xs : List Value} (h : w.ownsRow base e size v n xs) (hb : base' ≤ base) : w.ownsRow base' e size v n xs := by
  obtain ⟨h1, h2⟩ := h
  refine ⟨h1, ?_⟩
  rcases h2 with h2 | ⟨g, cap, cur, hv, hg, r⟩
  · exact .inl h2
  · exact .inr ⟨g, cap, cur, hv, Nat.le_trans hb hg, r⟩
theorem own_below {w w' : World} {base : Nat} {e : TypeId} {size n : Nat} {v : Value} {xs : List Value} (h : w.ownsRow base e size v n xs) (hk : Below w.heap.size w w') : w'.ownsRow base e size v n xs :=
  own_keep (S := fun _ => False) h (Keep.of_below hk) (fun _ _ h => h)

theorem keep_of_grown {w w' : World} {row : Option Nat} (h : w.grownBy w' row) : Keep (fun k => row = some k) w w' := ⟨h.os, h.tape, h.output, h.size, fun k hk hs => h.block k hk (fun e => hs e.symm)⟩
/-- 'l = append(l, ..)' where l lies in a box: what the box holds ahead of the store and behind it, what is owned, what is kept -/
theorem box_append {W w2 : World} {g0 base : Nat} {tb e : TypeId} {size k m : Nat} {v v' : Value} {xs ys : List Value} {tmp : Obj} (hb : W.heap[g0]? = some (.cells #[v] tb (0, 0))) (hrow : W.ownsRow base e size v k xs) (hg : g0 < base)
    (hgrow : (W.alloc tmp).grownBy w2 v.ownBlock) (hown : w2.ownsRow base e size v' m ys) :
    w2.heap[g0]? = some (.cells #[v] tb (0, 0)) ∧ (w2.setCell ⟨g0, 0, none⟩ v').heap[g0]? = some (.cells #[v'] tb (0, 0)) ∧ (w2.setCell ⟨g0, 0, none⟩ v').ownsRow base e size v' m ys ∧
      Keep (fun i => i = g0 ∨ v.ownBlock = some i) W (w2.setCell ⟨g0, 0, none⟩ v') := by
  have hk := keep_of_grown hgrow
  have h1 : w2.heap[g0]? = some (.cells #[v] tb (0, 0)) := hk.blk (blk_alloc hb tmp) (fun h => by have := (hrow.lt g0 h).1; omega)
  refine ⟨h1, blk_set h1 0 v', own_keep hown ((Keep.refl (· = g0) w2).setCell (.inl rfl) v') (fun i hi e => by have := (hown.lt i hi).1; omega), ?_⟩
  exact ((((Keep.refl _ W).alloc tmp).then hk (fun i h => .inl (.inr h))).setCell (.inl (.inl rfl)) v')
theorem new_cells (w : World) (l : List Value) (t : TypeId) : ∀ j u, l[j]? = some u → (w.alloc (.cells l.toArray t)).cell? ((⟨w.heap.size, 0, none⟩ : Addr).add j) = some u := by
  intro j u h
  have e : (⟨w.heap.size, 0, none⟩ : Addr).add j = ⟨w.heap.size, j, none⟩ := by unfold Addr.add; split <;> simp_all
  rw [e, World.cell?_alloc_new]
  simpa using h

/-- an owned row's cells, where they lie -/
theorem own_reads {w : World} {base : Nat} {e : TypeId} {size n : Nat} {v : Value} {xs : List Value} (h : w.ownsRow base e size v n xs) (hn : 0 < n) :
    ∃ g cap, v = .slice (some ⟨g, 0, none⟩) n cap ∧ base ≤ g ∧ g < w.heap.size ∧ n ≤ cap ∧ cap ≤ maxLen ∧ ∀ j u, xs[j]? = some u → w.cell? ⟨g, j, none⟩ = some u := by
  rcases h.2 with ⟨_, h0⟩ | ⟨g, cap, cur, rfl, hb, hgg, hc, hm, _, htake⟩
  · omega
  · refine ⟨g, cap, rfl, hb, blk_lt hgg, hc, hm, fun j u hu => ?_⟩
    rw [blk_cell hgg j]
    rw [← htake, List.getElem?_take] at hu
    split at hu
    · simpa using hu
    · cases hu
theorem own_slice {w : World} {base : Nat} {e : TypeId} {size n : Nat} {v : Value} {xs : List Value} (h : w.ownsRow base e size v n xs) : ∃ a cap, v = .slice a n cap ∧ n ≤ cap := by
  rcases h.2 with ⟨h1, h0⟩ | ⟨g, cap, cur, rfl, hb, hgg, hc, hm, _, htake⟩
  · exact ⟨none, 0, by rw [h1, h0], by omega⟩
  · exact ⟨_, cap, rfl, hc⟩

/-- the elements of a slice of whole numbers: where they lie -/
def Reads (k : IntKind) (w : World) (a : Option Addr) (zs : List Int) : Prop := zs.length = 0 ∨ ∃ b off, a = some ⟨b, off, none⟩ ∧ ∀ i, i < zs.length → w.cell? ⟨b, off + i, none⟩ = some (.int k (zs.getD i 0))
theorem Reads.keep {k : IntKind} {w w' : World} {a : Option Addr} {zs : List Int} (h : Reads k w a zs) (hb : Below w.heap.size w w') : Reads k w' a zs := by
  rcases h with h | ⟨b, off, ha, h⟩
  · exact .inl h
  · exact .inr ⟨b, off, ha, fun i hi => (hb.cell (p := ⟨b, off + i, none⟩) (World.block_lt_of_cell? w _ (h i hi))).trans (h i hi)⟩
theorem Reads.take {k : IntKind} {w : World} {a : Option Addr} {zs : List Int} (h : Reads k w a zs) (n : Nat) : Reads k w a (zs.take n) := by
  rcases h with h | ⟨b, off, ha, h⟩
  · exact .inl (by rw [List.length_take]; omega)
  · refine .inr ⟨b, off, ha, fun i hi => ?_⟩
    have hi' : i < n ∧ i < zs.length := by rw [List.length_take] at hi; omega
    rw [h i hi'.2]
    simp [List.getD, hi'.1]
theorem Reads.elems {kd : IntKind} {w : World} {a : Option Addr} {zs : List Int} (hz : Reads kd w a zs) {k : Nat} (hk : k < zs.length) :
    ∃ b off, a = some ⟨b, off, none⟩ ∧ ∀ wr, Below w.heap.size w wr → wr.cell? ⟨b, off + k, none⟩ = some (.int kd (zs.getD k 0)) := by
  obtain ⟨b, off, ha, hcell⟩ := hz.resolve_left (by omega)
  have hx0 := hcell k hk
  exact ⟨b, off, ha, fun wr br => (br.cell (p := ⟨b, off + k, none⟩) (World.block_lt_of_cell? w _ hx0)).trans hx0⟩
theorem Reads.elem {kd : IntKind} {w wr : World} {a : Option Addr} {zs : List Int} (hz : Reads kd w a zs) (br : Below w.heap.size w wr) {k : Nat} (hk : k < zs.length) :
    ∃ b off, a = some ⟨b, off, none⟩ ∧ wr.cell? ⟨b, off + k, none⟩ = some (.int kd (zs.getD k 0)) := by
  obtain ⟨b, off, ha, h⟩ := hz.elems hk
  exact ⟨b, off, ha, h wr br⟩

end Go.Proofs.Ytamaocdchlioaaa
