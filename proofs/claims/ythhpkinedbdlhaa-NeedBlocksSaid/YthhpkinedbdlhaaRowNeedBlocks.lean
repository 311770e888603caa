/- NeedBlocks of almerylaw17: for every layout the law answers true. No condition. -/
import Derived.Test.YthhpkinedbdlhaaRows
import Derived.Test.YthhpkinedbdlhaaBlocks17
import Derived.Test.YthhpkinedbdlhaaOpen
import Derived.Test.YthhpkinedbdlhaaOpenL
import Derived.Test.YthhpkinedbdlhaaOpenC
import Derived.WalkKit
import Derived.ProofKit
import Derived.OpenShut
import Derived.ShutString
import Derived.ChangeOld
import Derived.Below
import Derived.Laws.IdiomArrays
namespace Go.Proofs.Ythhpkinedbdlhaa.needBlocks
open Go.ChangeShapes Go.WideShapes Go.ChangeAt Go.RowKit
open Go.ChangeMaps (open_string shut_string)
set_option linter.unusedVariables false
theorem own : ownKnob Try.prog.godebug = none := by kernel_rfl
theorem laidOut : laidOutB Try.prog = true := by kernel_rfl
set_option maxRecDepth 100000 in
theorem lifted (os : Os) (started : os.Started) (H : Type) (enc : TypeId × Value → H) :
    ReturnsInHanded {} Try.checked os 7 .any (Rows.needBlocksSpec.pre6 enc Try.prog Try.f7 Rows.needBlocksRow.domain false) (Rows.needBlocksSpec.post enc Try.prog Try.f7 false true false false) := by
  refine returnsInHanded_of_change (C := Try.checked) own started (by kernel_rfl) Try.func7
    (ChangeSpec.witness6 (enc := enc) (C := Try.checked) false ⟨#[], #[.agg #[.int .i64 0, .int .i64 0, .slice none 0 0, .slice none 0 0, .int .i64 0, .int .i64 0, .int .i64 0, .int .i64 0], .int .u8 0], []⟩ 8 (by kernel_rfl) (by kernel_rfl) (by kernel_rfl) (by kernel_rfl)) ?_
  intro W base args ds gs before hval0 hW hcnd _
  have hval : ∀ (j : Nat) t v, Try.f7.params[j]? = some t → args[j]? = some v → Value.okWide Try.prog W .any base t v := hval0
  have hW' := hW
  obtain ⟨p, q, hA0, hV, rfl, hfz, hnd⟩ := hW
  have hA : DataW.TrodAll enc Try.prog W 0 (fun _ => true) true Try.f7.params.toList args.toList ds p := hA0
  rw [Try.params7] at hA hval
  obtain ⟨v0, vs0, d0, ds0, p0, q0, hargs, rfl, rfl, h0, r0⟩ := trodAll_cons hA
  obtain ⟨v1, vs1, d1, ds1, p1, q1, rfl, rfl, rfl, h1, r1⟩ := trodAll_cons r0
  obtain ⟨rfl, rfl, rfl⟩ := trodAll_nil r1
  obtain rfl : args = #[v0, v1] := by cases args; simp_all
  obtain ⟨rfl, rfl⟩ := trodVars_none hV
  have k0 := h0
  have lt0 : ∀ x ∈ p0, x.block < W.heap.size := by obtain ⟨m, hm⟩ := k0; exact DataW.trod_lt m _ _ _ hm
  obtain ⟨cs0, rfl, sz0⟩ := okWide_struct Try.underlying24 (hval 0 24 v0 rfl rfl)
  obtain ⟨m0, x0, tr0⟩ := trod_agg h0
  obtain ⟨y0_0, e0_0, w0_0⟩ := field_int Try.underlying24 tr0 0 _ rfl Try.underlying3 (by kernel_rfl)
  have bd0_0 : -9223372036854775808 ≤ y0_0 ∧ y0_0 ≤ 9223372036854775807 := bounds_of_wf w0_0 (by decide) (by decide)
  obtain ⟨y0_1, e0_1, w0_1⟩ := field_int Try.underlying24 tr0 1 _ rfl Try.underlying3 (by kernel_rfl)
  have bd0_1 : -9223372036854775808 ≤ y0_1 ∧ y0_1 ≤ 9223372036854775807 := bounds_of_wf w0_1 (by decide) (by decide)
  obtain ⟨A0_2, n0_2, c0_2, d0_2, p0_2, e0_2, T0_2⟩ := field_slice Try.underlying24 tr0 2 _ rfl Try.underlying22 (by kernel_rfl)
  obtain ⟨z0_2, hn0_2, hr0_2, hz0_2, hl0_2, hc0_2⟩ := open_reads Try.underlying22 Try.underlying3 (by kernel_rfl) T0_2
  have hb0_2 : ∀ i, -9223372036854775808 ≤ z0_2.getD i 0 ∧ z0_2.getD i 0 ≤ 9223372036854775807 := range_of_wf hz0_2 (by decide) (by decide)
  obtain ⟨_, hm0_2, ha0_2, _⟩ := open_each (s := 1) Try.underlying22 (by kernel_rfl) (by decide) T0_2
  subst hn0_2
  have hv0_2 : LV 0 W (.slice A0_2 z0_2.length c0_2) z0_2 := ⟨A0_2, c0_2, rfl, hc0_2, hm0_2, ⟨ha0_2, fun _ _ => Nat.zero_le _⟩, hr0_2⟩
  obtain ⟨A0_3, n0_3, c0_3, d0_3, p0_3, e0_3, T0_3⟩ := field_slice Try.underlying24 tr0 3 _ rfl Try.underlying22 (by kernel_rfl)
  obtain ⟨z0_3, hn0_3, hr0_3, hz0_3, hl0_3, hc0_3⟩ := open_reads Try.underlying22 Try.underlying3 (by kernel_rfl) T0_3
  have hb0_3 : ∀ i, -9223372036854775808 ≤ z0_3.getD i 0 ∧ z0_3.getD i 0 ≤ 9223372036854775807 := range_of_wf hz0_3 (by decide) (by decide)
  obtain ⟨_, hm0_3, ha0_3, _⟩ := open_each (s := 1) Try.underlying22 (by kernel_rfl) (by decide) T0_3
  subst hn0_3
  have hv0_3 : LV 0 W (.slice A0_3 z0_3.length c0_3) z0_3 := ⟨A0_3, c0_3, rfl, hc0_3, hm0_3, ⟨ha0_3, fun _ _ => Nat.zero_le _⟩, hr0_3⟩
  obtain ⟨y0_4, e0_4, w0_4⟩ := field_int Try.underlying24 tr0 4 _ rfl Try.underlying3 (by kernel_rfl)
  have bd0_4 : -9223372036854775808 ≤ y0_4 ∧ y0_4 ≤ 9223372036854775807 := bounds_of_wf w0_4 (by decide) (by decide)
  obtain ⟨y0_5, e0_5, w0_5⟩ := field_int Try.underlying24 tr0 5 _ rfl Try.underlying3 (by kernel_rfl)
  have bd0_5 : -9223372036854775808 ≤ y0_5 ∧ y0_5 ≤ 9223372036854775807 := bounds_of_wf w0_5 (by decide) (by decide)
  obtain ⟨y0_6, e0_6, w0_6⟩ := field_int Try.underlying24 tr0 6 _ rfl Try.underlying3 (by kernel_rfl)
  have bd0_6 : -9223372036854775808 ≤ y0_6 ∧ y0_6 ≤ 9223372036854775807 := bounds_of_wf w0_6 (by decide) (by decide)
  obtain ⟨y0_7, e0_7, w0_7⟩ := field_int Try.underlying24 tr0 7 _ rfl Try.underlying3 (by kernel_rfl)
  have bd0_7 : -9223372036854775808 ≤ y0_7 ∧ y0_7 ≤ 9223372036854775807 := bounds_of_wf w0_7 (by decide) (by decide)
  obtain rfl := arr_eq8 (sz0.trans (by kernel_rfl)) e0_0 e0_1 e0_2 e0_3 e0_4 e0_5 e0_6 e0_7
  obtain ⟨a1, rfl, rfl, rfl, w1⟩ := open_int Try.underlying5 (hval 1 5 v1 rfl rfl) h1
  have bd1 : 0 ≤ a1 ∧ a1 ≤ 255 := bounds_of_wf w1 (by decide) (by decide)
  clear hA0 hval0
  refine (lawBlocks W _ ⟨y0_0, y0_1, z0_2, z0_3, y0_4, y0_5, y0_6, y0_7⟩ a1 ⟨_, _, _, _, rfl, hv0_2, hv0_3⟩ bd1).mono fun e W' ⟨he, bel⟩ => ?_
  subst he
  exact ⟨_, rfl, _, _, _, [], _, [], hW', trodAll_mk1 (shut_bool Try.underlying4 _), (trodAll_cons_mk (Below.trod laidOut (by kernel_rfl) (of_decide_eq_true (by kernel_rfl)) k0 bel lt0) (trodAll_cons_mk (shut_int Try.underlying5 w1) trodAll_mk0)), rfl, bel.frame _, fun h => by cases h⟩
theorem over : Rows.needBlocksRow.holds Try.pinned (OpenSpec.ofChange Rows.needBlocksSpec) :=
  OpenClaim.holds_of_wide 7 Try.f7 rfl rfl rfl rfl rfl rfl rfl ⟨rfl, rfl, rfl, rfl, rfl⟩ rfl rfl rfl rfl rfl (by kernel_rfl) Try.func7 (by kernel_rfl)
    (of_decide_eq_true (by kernel_rfl)) (by unfold Func.isWrapper; first | (rw [if_pos (by decide +kernel)]; kernel_rfl) | (rw [if_neg (by decide +kernel)]; exact ⟨rfl, rfl⟩))
    (fun os started H enc _ => lifted os started H enc)
theorem proved : Rows.NeedBlocksSaid := over
end Go.Proofs.Ythhpkinedbdlhaa.needBlocks
namespace Go.Proofs.Ythhpkinedbdlhaa
theorem needBlocks_holds : Rows.NeedBlocksSaid := needBlocks.proved
end Go.Proofs.Ythhpkinedbdlhaa
