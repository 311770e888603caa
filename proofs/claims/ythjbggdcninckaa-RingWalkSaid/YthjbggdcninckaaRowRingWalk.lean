/- RingWalk of almerylaw07: for every list of acts the law answers true. No condition. -/
import Derived.Test.YthjbggdcninckaaRows
import Derived.Test.YthjbggdcninckaaWalk7
import Derived.Test.YthjbggdcninckaaOpen
import Derived.Test.YthjbggdcninckaaOpenS
import Derived.WalkKit
import Derived.ProofKit
import Derived.OpenShut
import Derived.ShutString
import Derived.ChangeOld
import Derived.Below
import Derived.Laws.IdiomArrays
namespace Go.Proofs.Ythjbggdcninckaa.ringWalk
open Go.ChangeShapes Go.WideShapes Go.ChangeAt Go.RowKit
open Go.ChangeMaps (open_string shut_string)
set_option linter.unusedVariables false
theorem own : ownKnob Try.prog.godebug = none := by kernel_rfl
theorem laidOut : laidOutB Try.prog = true := by kernel_rfl
set_option maxRecDepth 100000 in
theorem lifted (os : Os) (started : os.Started) (H : Type) (enc : TypeId × Value → H) :
    ReturnsInHanded {} Try.checked os 5 .any (Rows.ringWalkSpec.pre6 enc Try.prog Try.f5 Rows.ringWalkRow.domain false) (Rows.ringWalkSpec.post enc Try.prog Try.f5 false true false false) := by
  refine returnsInHanded_of_change (C := Try.checked) own started (by kernel_rfl) Try.func5
    (ChangeSpec.witness6 (enc := enc) (C := Try.checked) false ⟨#[], #[.slice none 0 0], []⟩ 8 (by kernel_rfl) (by kernel_rfl) (by kernel_rfl) (by kernel_rfl)) ?_
  intro W base args ds gs before hval0 hW hcnd _
  have hval : ∀ (j : Nat) t v, Try.f5.params[j]? = some t → args[j]? = some v → Value.okWide Try.prog W .any base t v := hval0
  have hW' := hW
  obtain ⟨p, q, hA0, hV, rfl, hfz, hnd⟩ := hW
  have hA : DataW.TrodAll enc Try.prog W 0 (fun _ => true) true Try.f5.params.toList args.toList ds p := hA0
  rw [Try.params5] at hA hval
  obtain ⟨v0, vs0, d0, ds0, p0, q0, hargs, rfl, rfl, h0, r0⟩ := trodAll_cons hA
  obtain ⟨rfl, rfl, rfl⟩ := trodAll_nil r0
  obtain rfl : args = #[v0] := by cases args; simp_all
  obtain ⟨rfl, rfl⟩ := trodVars_none hV
  obtain ⟨A0, n0, c0, rfl⟩ := okWide_slice Try.underlying35 (hval 0 35 v0 rfl rfl)
  have k0 := h0
  have lt0 : ∀ x ∈ p0, x.block < W.heap.size := by obtain ⟨m, hm⟩ := k0; exact DataW.trod_lt m _ _ _ hm
  obtain ⟨z0, hn0, hc0, hm0, ha0, hx0⟩ := open_list (s := 3) ((false, 0, 0) : Bool × Int × Int) Try.underlying35 (by kernel_rfl) (by omega) h0 (fun (cs : List Value) (z : Bool × Int × Int) => cs[0]? = some (.bool z.1) ∧ cs[1]? = some (.int .i64 (z.2.1)) ∧ (-9223372036854775808 ≤ z.2.1 ∧ z.2.1 ≤ 9223372036854775807) ∧ cs[2]? = some (.int .i64 (z.2.2)) ∧ (-9223372036854775808 ≤ z.2.2 ∧ z.2.2 ≤ 9223372036854775807)) (fun cs m x hl ht => by obtain ⟨y0, e0⟩ := field_bool Try.underlying38 ht 0 _ rfl Try.underlying4 (by kernel_rfl); obtain ⟨y1, e1, w1⟩ := field_int Try.underlying38 ht 1 _ rfl Try.underlying3 (by kernel_rfl); obtain ⟨y2, e2, w2⟩ := field_int Try.underlying38 ht 2 _ rfl Try.underlying3 (by kernel_rfl); exact ⟨(y0, y1, y2), e0, e1, bounds_of_wf w1 (by decide) (by decide), e2, bounds_of_wf w2 (by decide) (by decide)⟩)
  subst hn0
  clear hA0 hval0
  refine (walkLaw_any W A0 c0 z0 (readA_of hx0) (by unfold maxLen at hm0; omega)).mono fun e W' ⟨he, bel⟩ => ?_
  subst he
  exact ⟨_, rfl, _, _, _, [], _, [], hW', trodAll_mk1 (shut_bool Try.underlying4 _), (trodAll_cons_mk (Below.trod laidOut (by kernel_rfl) (of_decide_eq_true (by kernel_rfl)) k0 bel lt0) trodAll_mk0), rfl, bel.frame _, fun h => by cases h⟩
theorem over : Rows.ringWalkRow.holds Try.pinned (OpenSpec.ofChange Rows.ringWalkSpec) :=
  OpenClaim.holds_of_wide 5 Try.f5 rfl rfl rfl rfl rfl rfl rfl ⟨rfl, rfl, rfl, rfl, rfl⟩ rfl rfl rfl rfl rfl (by kernel_rfl) Try.func5 (by kernel_rfl)
    (of_decide_eq_true (by kernel_rfl)) (by unfold Func.isWrapper; first | (rw [if_pos (by decide +kernel)]; kernel_rfl) | (rw [if_neg (by decide +kernel)]; exact ⟨rfl, rfl⟩))
    (fun os started H enc _ => lifted os started H enc)
theorem proved : Rows.RingWalkSaid := over
end Go.Proofs.Ythjbggdcninckaa.ringWalk
namespace Go.Proofs.Ythjbggdcninckaa
theorem ringWalk_holds : Rows.RingWalkSaid := ringWalk.proved
end Go.Proofs.Ythjbggdcninckaa
