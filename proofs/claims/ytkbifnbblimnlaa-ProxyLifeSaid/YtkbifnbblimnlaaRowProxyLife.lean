/- ProxyLife of almerylaw10: for every two lists of acts the law answers true. No condition. -/
import Derived.Test.YtkbifnbblimnlaaRows
import Derived.Test.YtkbifnbblimnlaaLawLife
import Derived.Test.YtkbifnbblimnlaaOpen
import Derived.Test.YtkbifnbblimnlaaOpenS
import Derived.WalkKit
import Derived.ProofKit
import Derived.OpenShut
import Derived.ShutString
import Derived.ChangeOld
import Derived.Below
import Derived.Laws.IdiomArrays
namespace Go.Proofs.Ytkbifnbblimnlaa.proxyLife
open Go.ChangeShapes Go.WideShapes Go.ChangeAt Go.RowKit
open Go.ChangeMaps (open_string shut_string)
set_option linter.unusedVariables false
theorem own : ownKnob Try.prog.godebug = none := by kernel_rfl
theorem laidOut : laidOutB Try.prog = true := by kernel_rfl
set_option maxRecDepth 100000 in
theorem lifted (os : Os) (started : os.Started) (H : Type) (enc : TypeId × Value → H) :
    ReturnsInHanded {} Try.checked os 6 .any (Rows.proxyLifeSpec.pre6 enc Try.prog Try.f6 Rows.proxyLifeRow.domain false) (Rows.proxyLifeSpec.post enc Try.prog Try.f6 false true false false) := by
  refine returnsInHanded_of_change (C := Try.checked) own started (by kernel_rfl) Try.func6
    (ChangeSpec.witness6 (enc := enc) (C := Try.checked) false ⟨#[], #[.agg #[.int .u8 0, .int .u8 0], .slice none 0 0, .slice none 0 0], []⟩ 8 (by kernel_rfl) (by kernel_rfl) (by kernel_rfl) (by kernel_rfl)) ?_
  intro W base args ds gs before hval0 hW hcnd _
  have hval : ∀ (j : Nat) t v, Try.f6.params[j]? = some t → args[j]? = some v → Value.okWide Try.prog W .any base t v := hval0
  have hW' := hW
  obtain ⟨p, q, hA0, hV, rfl, hfz, hnd⟩ := hW
  have hA : DataW.TrodAll enc Try.prog W 0 (fun _ => true) true Try.f6.params.toList args.toList ds p := hA0
  rw [Try.params6] at hA hval
  obtain ⟨v0, vs0, d0, ds0, p0, q0, hargs, rfl, rfl, h0, r0⟩ := trodAll_cons hA
  obtain ⟨v1, vs1, d1, ds1, p1, q1, rfl, rfl, rfl, h1, r1⟩ := trodAll_cons r0
  obtain ⟨v2, vs2, d2, ds2, p2, q2, rfl, rfl, rfl, h2, r2⟩ := trodAll_cons r1
  obtain ⟨rfl, rfl, rfl⟩ := trodAll_nil r2
  obtain rfl : args = #[v0, v1, v2] := by cases args; simp_all
  obtain ⟨rfl, rfl⟩ := trodVars_none hV
  have k0 := h0
  have lt0 : ∀ x ∈ p0, x.block < W.heap.size := by obtain ⟨m, hm⟩ := k0; exact DataW.trod_lt m _ _ _ hm
  obtain ⟨a0_0, a0_1, rfl, w0_0, w0_1⟩ := open_arr2 Try.underlying22 Try.underlying5 (by kernel_rfl) (by kernel_rfl) (hval 0 22 v0 rfl rfl) h0
  have bd0_0 : 0 ≤ a0_0 ∧ a0_0 ≤ 255 := bounds_of_wf w0_0 (by decide) (by decide)
  have bd0_1 : 0 ≤ a0_1 ∧ a0_1 ≤ 255 := bounds_of_wf w0_1 (by decide) (by decide)
  obtain ⟨A1, n1, c1, rfl⟩ := okWide_slice Try.underlying23 (hval 1 23 v1 rfl rfl)
  have k1 := h1
  have lt1 : ∀ x ∈ p1, x.block < W.heap.size := by obtain ⟨m, hm⟩ := k1; exact DataW.trod_lt m _ _ _ hm
  obtain ⟨z1, hn1, hc1, hm1, ha1, hx1⟩ := open_list (s := 3) ((false, 0, 0) : Bool × Int × Int) Try.underlying23 (by kernel_rfl) (by omega) h1 (fun (cs : List Value) (z : Bool × Int × Int) => cs[0]? = some (.bool z.1) ∧ cs[1]? = some (.int .u8 (z.2.1)) ∧ (0 ≤ z.2.1 ∧ z.2.1 ≤ 255) ∧ cs[2]? = some (.int .u8 (z.2.2)) ∧ (0 ≤ z.2.2 ∧ z.2.2 ≤ 255)) (fun cs m x hl ht => by obtain ⟨y0, e0⟩ := field_bool Try.underlying49 ht 0 _ rfl Try.underlying4 (by kernel_rfl); obtain ⟨y1, e1, w1⟩ := field_int Try.underlying49 ht 1 _ rfl Try.underlying5 (by kernel_rfl); obtain ⟨y2, e2, w2⟩ := field_int Try.underlying49 ht 2 _ rfl Try.underlying5 (by kernel_rfl); exact ⟨(y0, y1, y2), e0, e1, bounds_of_wf w1 (by decide) (by decide), e2, bounds_of_wf w2 (by decide) (by decide)⟩)
  subst hn1
  obtain ⟨A2, n2, c2, rfl⟩ := okWide_slice Try.underlying23 (hval 2 23 v2 rfl rfl)
  have k2 := h2
  have lt2 : ∀ x ∈ p2, x.block < W.heap.size := by obtain ⟨m, hm⟩ := k2; exact DataW.trod_lt m _ _ _ hm
  obtain ⟨z2, hn2, hc2, hm2, ha2, hx2⟩ := open_list (s := 3) ((false, 0, 0) : Bool × Int × Int) Try.underlying23 (by kernel_rfl) (by omega) h2 (fun (cs : List Value) (z : Bool × Int × Int) => cs[0]? = some (.bool z.1) ∧ cs[1]? = some (.int .u8 (z.2.1)) ∧ (0 ≤ z.2.1 ∧ z.2.1 ≤ 255) ∧ cs[2]? = some (.int .u8 (z.2.2)) ∧ (0 ≤ z.2.2 ∧ z.2.2 ≤ 255)) (fun cs m x hl ht => by obtain ⟨y0, e0⟩ := field_bool Try.underlying49 ht 0 _ rfl Try.underlying4 (by kernel_rfl); obtain ⟨y1, e1, w1⟩ := field_int Try.underlying49 ht 1 _ rfl Try.underlying5 (by kernel_rfl); obtain ⟨y2, e2, w2⟩ := field_int Try.underlying49 ht 2 _ rfl Try.underlying5 (by kernel_rfl); exact ⟨(y0, y1, y2), e0, e1, bounds_of_wf w1 (by decide) (by decide), e2, bounds_of_wf w2 (by decide) (by decide)⟩)
  subst hn2
  clear hA0 hval0
  refine (lawLife_any W a0_0 a0_1 A1 c1 z1 A2 c2 z2 bd0_0 bd0_1 (readA_of hx1) (by unfold maxLen at hm1; omega) (readA_of hx2) (by unfold maxLen at hm2; omega)).mono fun e W' ⟨he, bel⟩ => ?_
  subst he
  exact ⟨_, rfl, _, _, _, [], _, [], hW', trodAll_mk1 (shut_bool Try.underlying4 _), (trodAll_cons_mk (Below.trod laidOut (by kernel_rfl) (of_decide_eq_true (by kernel_rfl)) k0 bel lt0) (trodAll_cons_mk (Below.trod laidOut (by kernel_rfl) (of_decide_eq_true (by kernel_rfl)) k1 bel lt1) (trodAll_cons_mk (Below.trod laidOut (by kernel_rfl) (of_decide_eq_true (by kernel_rfl)) k2 bel lt2) trodAll_mk0))), rfl, bel.frame _, fun h => by cases h⟩
theorem over : Rows.proxyLifeRow.holds Try.pinned (OpenSpec.ofChange Rows.proxyLifeSpec) :=
  OpenClaim.holds_of_wide 6 Try.f6 rfl rfl rfl rfl rfl rfl rfl ⟨rfl, rfl, rfl, rfl, rfl⟩ rfl rfl rfl rfl rfl (by kernel_rfl) Try.func6 (by kernel_rfl)
    (of_decide_eq_true (by kernel_rfl)) (by unfold Func.isWrapper; first | (rw [if_pos (by decide +kernel)]; kernel_rfl) | (rw [if_neg (by decide +kernel)]; exact ⟨rfl, rfl⟩))
    (fun os started H enc _ => lifted os started H enc)
theorem proved : Rows.ProxyLifeSaid := over
end Go.Proofs.Ytkbifnbblimnlaa.proxyLife
namespace Go.Proofs.Ytkbifnbblimnlaa
theorem proxyLife_holds : Rows.ProxyLifeSaid := proxyLife.proved
end Go.Proofs.Ytkbifnbblimnlaa
