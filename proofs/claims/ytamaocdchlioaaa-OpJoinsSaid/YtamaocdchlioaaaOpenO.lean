/- How a slice of ops that came in is read. -/
import Derived.Test.YtamaocdchlioaaaOpenS
import Derived.Test.YtamaocdchlioaaaOp9
namespace Go.Proofs.Ytamaocdchlioaaa
open Go.ChangeShapes Go.WideShapes Go.ChangeAt Go.RowKit
set_option linter.unusedVariables false
variable {H : Type} {enc : TypeId × Value → H} {W : World}

theorem open_bytes {a : Option Addr} {n c : Nat} {d : DataW H} {p : List MemPlace} (h : DataW.Trod enc Try.prog W 0 (fun _ => true) true 25 (.slice a n c) d p) : ∃ z : List Int, z.length = n ∧ LB W (.slice a n c) z ∧ Bytes z := by
  obtain ⟨z, hn, hr, hz, hl, hc⟩ := open_reads Try.underlying25 Try.underlying5 (by kernel_rfl) h
  obtain ⟨_, hm, ha, _⟩ := open_each (s := 1) Try.underlying25 (by kernel_rfl) (by decide) h
  subst hn
  exact ⟨z, rfl, ⟨a, c, rfl, hc, hm, ha, hr⟩, range_of_wf hz (by decide) (by decide)⟩
theorem open_ops {a : Option Addr} {n c : Nat} {d : DataW H} {p : List MemPlace} (h : DataW.Trod enc Try.prog W 0 (fun _ => true) true 22 (.slice a n c) d p) : ∃ l : List POp, l.length = n ∧ OV W (.slice a n c) l ∧ ∀ q ∈ l, POk q := by
  obtain ⟨l, hn, hc, hm, ha, hx⟩ := open_list (s := 5) (op0 : POp) Try.underlying22 (by kernel_rfl) (by omega) h
    (fun (cs : List Value) (q : POp) => cs[0]? = some (.int .i64 q.k) ∧ cs[1]? = some (.int .i64 q.a) ∧ cs[2]? = some (.int .i64 q.b) ∧ cs[3]? = some (.int .i64 q.c) ∧ (∃ dv, cs[4]? = some dv ∧ LB W dv q.d) ∧ POk q)
    (fun cs m x hl ht => by
      obtain ⟨y0, e0, w0⟩ := field_int Try.underlying40 ht 0 _ rfl Try.underlying3 (by kernel_rfl)
      obtain ⟨y1, e1, w1⟩ := field_int Try.underlying40 ht 1 _ rfl Try.underlying3 (by kernel_rfl)
      obtain ⟨y2, e2, w2⟩ := field_int Try.underlying40 ht 2 _ rfl Try.underlying3 (by kernel_rfl)
      obtain ⟨y3, e3, w3⟩ := field_int Try.underlying40 ht 3 _ rfl Try.underlying3 (by kernel_rfl)
      obtain ⟨A4, n4, c4, d4, p4, e4, T4⟩ := field_slice Try.underlying40 ht 4 _ rfl Try.underlying25 (by kernel_rfl)
      obtain ⟨z, _, hlb, hbz⟩ := open_bytes T4
      exact ⟨⟨y0, y1, y2, y3, z⟩, e0, e1, e2, e3, ⟨_, e4, hlb⟩, ⟨bounds_of_wf w1 (by decide) (by decide), bounds_of_wf w2 (by decide) (by decide), bounds_of_wf w3 (by decide) (by decide), hbz⟩⟩)
  subst hn
  refine ⟨l, rfl, ⟨a, c, rfl, hc, hm, ha, ?_⟩, fun q hq => ?_⟩
  · rcases hx with h0 | ⟨b, off, hb, hx⟩
    · exact .inl h0
    · refine .inr ⟨b, off, hb, fun i hi => ?_⟩
      obtain ⟨cs, hl, hcell, h0, h1, h2, h3, ⟨dv, h4, h5⟩, _⟩ := hx i hi
      exact ⟨dv, h5, (hcell 0 (by omega)).trans h0, (hcell 1 (by omega)).trans h1, (hcell 2 (by omega)).trans h2, (hcell 3 (by omega)).trans h3, (hcell 4 (by omega)).trans h4⟩
  · obtain ⟨i, hi, rfl⟩ := List.getElem_of_mem hq
    rcases hx with h0 | ⟨b, off, hb, hx⟩
    · omega
    · obtain ⟨cs, _, _, _, _, _, _, _, h6⟩ := hx i hi
      have : l.getD i op0 = l[i] := by simp [List.getD, hi]
      rwa [this] at h6
end Go.Proofs.Ytamaocdchlioaaa
