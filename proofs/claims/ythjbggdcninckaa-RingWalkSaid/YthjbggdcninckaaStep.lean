/- A law at a step of a region that draws its order: append of a whole slice, which may be nil. -/
import Derived.Test.YthjbggdcninckaaLV
import Derived.Deep.AppendLies
namespace Go.Proofs.Ythjbggdcninckaa
open Go.RowKit

theorem step_append_list {P : Program} (w : World) {ops : Array Oper} {o : Oper} {a : Act} {K : Act → World → Prop} {Q : Exit → Act → World → Prop} {E : Prop} (hgd : o.guard = none) (s x : Operand) (t : TypeId)
    (ho : o.op = .call { callee := .builtin .append, args := #[s, x], argTypes := #[t, t] })
    (base : Nat) (e : TypeId) (i : TypeInfo) (z : Value) (size bytes : Nat) (ht : P.underlying t = some (.slice e)) (hi : P.info? e = some i) (hz : i.zero = some z)
    (hsize : i.size = size) (hby : i.bytes = bytes) (hzs : z.cells.size = size) (hsz : 0 < size)
    (v : Value) (n : Nat) (xs : List Value) (hs : a.eval s = v) (hown : w.ownsRow base e size v n xs)
    (m : Nat) (news : List Value) (hx : ReadV w (a.eval x) m news) (hl : news.length = m * size) (h1 : ∀ u ∈ news, u.oneCell' = true)
    (h63 : n + m ≤ maxLen) (hbytes : (n + m) * bytes ≤ 140737488355328) (hbase : base ≤ w.heap.size)
    (h : ∀ v' w', w'.ownsRow base e size v' (n + m) (xs ++ news) → w.grownBy w' v.ownBlock → K (a.put o.dst v') w') :
    if Region.wanted o (yielded ops a.tmps) = true then Oper.wp P o a w K Q else E := by
  have hw : Region.wanted o (yielded ops a.tmps) = true := by simp [Region.wanted, hgd]
  rw [if_pos hw]
  obtain ⟨v', w', hr, h2, h3⟩ := run_append_list (P := P) (w := w) base t o.type e i z size bytes ht hi hz hsize hby hzs hsz v n xs hown (a.eval x) m news hx hl h1 h63 hbytes hbase
  unfold Oper.wp execOp
  simp only [ho, resolve, invoke, builtin, Sem.run_bind, Sem.run_pure, Result.andThen_ok, List.map_toArray, List.map_cons, List.map_nil, hs, hr]
  exact h v' w' h2 h3
theorem grow_below' {w wA wB : World} {e : TypeId} {size n : Nat} {v : Value} {xs : List Value} (h : Below w.heap.size w wA) (hown : wA.ownsRow w.heap.size e size v n xs) (hg : wA.grownBy wB v.ownBlock) : Below w.heap.size w wB :=
  below_append h hown (Keep.refl _ _) hg h.size
theorem own_snoc {w : World} {base : Nat} {v : Value} {l L : List Int} {x : Int} (h : w.ownsRow base 3 1 v (l.length + 1) (icells l ++ [.int .i64 x])) (hL : L = l ++ [x]) : w.ownsRow base 3 1 v L.length (icells L) := by
  subst hL
  rw [List.length_append, show icells (l ++ [x]) = icells l ++ [.int .i64 x] from by simp [icells]]
  exact h
theorem own_join {w : World} {base : Nat} {v : Value} {a b L : List Int} (h : w.ownsRow base 3 1 v (a.length + b.length) (icells a ++ icells b)) (hL : L = a ++ b) : w.ownsRow base 3 1 v L.length (icells L) := by
  subst hL
  rw [List.length_append, show icells (a ++ b) = icells a ++ icells b from by simp [icells]]
  exact h
end Go.Proofs.Ythjbggdcninckaa
