/- What an append to a row of the call's own keeps; appending a whole slice, which may be nil. -/
import Derived.Test.YtamaocdchlioaaaFrame
namespace Go.Proofs.Ytamaocdchlioaaa
open Go.RowKit

theorem below_append {B : Nat} {w wr w1 w2 : World} {e : TypeId} {size n : Nat} {v : Value} {xs : List Value} (h : Below B w wr) (hown : wr.ownsRow B e size v n xs) (h1 : Keep (fun _ => False) wr w1) (hg : w1.grownBy w2 v.ownBlock) (hB : B ≤ wr.heap.size) : Below B w w2 :=
  below_keep h ((h1.mono (fun _ h => h.elim)).then (keep_of_grown hg) (fun i hi => .inl (show v.ownBlock = some i from hi))) hB (fun i hi => (hown.lt i hi).1)
theorem keep_append {wr w1 w2 : World} {v : Value} (h1 : Keep (fun _ => False) wr w1) (hg : w1.grownBy w2 v.ownBlock) : Keep (fun i => v.ownBlock = some i) wr w2 :=
  (h1.mono (fun _ h => h.elim)).then (keep_of_grown hg) (fun _ hi => .inl hi)

/-- a slice that is read: nil, or its cells -/
def ReadV (w : World) (x : Value) (m : Nat) (news : List Value) : Prop := (x = .slice none 0 0 ∧ m = 0 ∧ news = []) ∨ (∃ ad c, x = .slice (some ad) m c ∧ ∀ j u, news[j]? = some u → w.cell? (ad.add j) = some u)

theorem run_append_list {P : Program} {w : World} (base : Nat) (t ty e : TypeId) (i : TypeInfo) (z : Value) (size bytes : Nat) (ht : P.underlying t = some (.slice e)) (hi : P.info? e = some i) (hz : i.zero = some z)
    (hsize : i.size = size) (hby : i.bytes = bytes) (hzs : z.cells.size = size) (hsz : 0 < size)
    (v : Value) (n : Nat) (xs : List Value) (hown : w.ownsRow base e size v n xs)
    (x : Value) (m : Nat) (news : List Value) (hx : ReadV w x m news) (hl : news.length = m * size) (h1 : ∀ u ∈ news, u.oneCell' = true)
    (h63 : n + m ≤ maxLen) (hbytes : (n + m) * bytes ≤ 140737488355328) (hbase : base ≤ w.heap.size) :
    ∃ v' w', (Builtin.append_ #[t, t] ty #[v, x]).run P w = .ok v' w' ∧ w'.ownsRow base e size v' (n + m) (xs ++ news) ∧ w.grownBy w' v.ownBlock := by
  rcases hx with ⟨rfl, rfl, rfl⟩ | ⟨ad, c, rfl, hc⟩
  · have hgr : w.grownBy w v.ownBlock := ⟨rfl, rfl, rfl, Nat.le_refl _, fun _ _ _ => rfl⟩
    rw [List.append_nil, Nat.add_zero]
    have hown0 := hown
    rcases hown.2 with ⟨rfl, rfl⟩ | ⟨g, cap, cur, rfl, hbg, hg, hnc, hcm, hcs, htake⟩
    · refine ⟨_, w, ?_, hown0, hgr⟩
      subst hsize
      simp [Builtin.append_, run_underlying ht, sizeOf, typeInfo, hi, Builtin.lenOf, Builtin.firstCells]
    · refine ⟨_, w, ?_, hown0, hgr⟩
      subst hsize
      simp [Builtin.append_, run_underlying ht, sizeOf, typeInfo, hi, Builtin.lenOf, Builtin.firstCells, loadCells, hnc, storeCells, Addr.add_lit]
  · obtain ⟨v', w', h2, h3, h4, _⟩ := run_append_own (P := P) (w := w) base t ty e i z size bytes ht hi hz hsize hby hzs hsz v n xs hown ad m c news hl hc h1 h63 hbytes hbase
    exact ⟨v', w', h2, h3, h4⟩

theorem own_readV {w : World} {base : Nat} {e : TypeId} {size n : Nat} {v : Value} {xs : List Value} (h : w.ownsRow base e size v n xs) : ReadV w v n xs := by
  obtain ⟨h1, h2 | ⟨g, cap, cur, rfl, r⟩⟩ := h
  · obtain ⟨rfl, rfl⟩ := h2
    exact .inl ⟨rfl, rfl, List.eq_nil_of_length_eq_zero (by simpa using h1)⟩
  · have h' : w.ownsRow base e size (.slice (some ⟨g, 0, none⟩) n cap) n xs := ⟨h1, .inr ⟨g, cap, cur, rfl, r⟩⟩
    exact .inr ⟨_, _, rfl, h'.cells (g := g) rfl⟩
theorem own_empty (w : World) (base : Nat) (e : TypeId) (size : Nat) (hb : base ≤ w.heap.size) : (w.alloc (.cells #[] e)).ownsRow base e size (.slice (some ⟨w.heap.size, 0, none⟩) 0 0) 0 [] :=
  ⟨by simp, .inr ⟨w.heap.size, 0, #[], rfl, hb, blk_new _ _, Nat.le_refl _, Nat.zero_le _, by simp, by simp⟩⟩

theorem wpList_append_list {P : Program} (w : World) {ops : Array Oper} {rest : List Oper} {o : Oper} {a : Act} {Q : Exit → Act → World → Prop} (hgd : o.guard = none) (s x : Operand) (t : TypeId)
    (ho : o.op = .call { callee := .builtin .append, args := #[s, x], argTypes := #[t, t] })
    (base : Nat) (e : TypeId) (i : TypeInfo) (z : Value) (size bytes : Nat) (ht : P.underlying t = some (.slice e)) (hi : P.info? e = some i) (hz : i.zero = some z)
    (hsize : i.size = size) (hby : i.bytes = bytes) (hzs : z.cells.size = size) (hsz : 0 < size)
    (v : Value) (n : Nat) (xs : List Value) (hs : a.eval s = v) (hown : w.ownsRow base e size v n xs)
    (m : Nat) (news : List Value) (hx : ReadV w (a.eval x) m news) (hl : news.length = m * size) (h1 : ∀ u ∈ news, u.oneCell' = true)
    (h63 : n + m ≤ maxLen) (hbytes : (n + m) * bytes ≤ 140737488355328) (hbase : base ≤ w.heap.size)
    (h : ∀ v' w', w'.ownsRow base e size v' (n + m) (xs ++ news) → w.grownBy w' v.ownBlock → wpList P ops Q rest (a.put o.dst v') w') : wpList P ops Q (o :: rest) a w := by
  refine wpList_plain hgd fun K hK => ?_
  obtain ⟨v', w', hr, h2, h3⟩ := run_append_list (P := P) (w := w) base t o.type e i z size bytes ht hi hz hsize hby hzs hsz v n xs hown (a.eval x) m news hx hl h1 h63 hbytes hbase
  unfold Oper.wp execOp
  simp only [ho, resolve, invoke, builtin, Sem.run_bind, Sem.run_pure, Result.andThen_ok, List.map_toArray, List.map_cons, List.map_nil, hs, hr]
  exact hK _ _ (h v' w' h2 h3)
end Go.Proofs.Ytamaocdchlioaaa
