/-
  No cell of these rows narrows 'for every input' (looked for: loops, veiled, ifaces, maps, wideKeys, modest, calm, conditions, laid).
  DERIVED. THE GIVEN ROWS OF THIS SEAT. 5 by the template 'for every input the law returns true; each argument reads behind the call as it read before'; 0 by the template 'total and deterministic' (their statements: YtbcmdpmliehojaaTotals.lean).
  GIVEN WITH THE SEED: the statements are not yours to turn. If you find one false, say at which input.
  Laid BY PROGRAM, IN A SANDBOX (cutbox-rows.mjs): the forced cells as the released guide's own fill.sh prints them over the translation 61165e40f16942c3… (all of the seat's roots in one cut). By AI agents, Wed Nov 11 2026. No macro, syntax, notation, axiom, sorry.
-/
import Derived.Test.YtbcmdpmliehojaaChecked
import GoSem.Claim
import GoSem.ClaimJoined
import GoSem.ClaimMapViews
import Derived.JoinedTies
import Derived.KernelRfl
namespace Go.Proofs.Ytbcmdpmliehojaa
/- THE CELL 'sum', in the pinned program and in every row, IS THE sha256 OF THE DUMP (.gsa) THAT YtbcmdpmliehojaaProg.lean LOADS. Nothing in Lean hashes anything: it is a label: what it is worth is what the hold of that sum in a sandbox is worth. -/
noncomputable def Try.pinned : Pinned := { name := "ytbcmdpmliehojaa", sum := "61165e40f16942c38394fb606eaca2084022b25732a70814491873274ab26468", checked := Try.checked }
namespace Rows
def none {H : Type} : Left H := { results := [], args := [] }

/-- 'almerylaw02.ClassMay': WHATEVER THE INPUT: true; the input reads as it did. -/
def classMaySpec : ChangeSpec := { name := "classMay", fn := fun _ => fun
  | [d1, d2] => { results := [.lit (.bool true)], args := [d1, d2] }
  | _ => none }
def classMayRow : OpenClaim := { program := "ytbcmdpmliehojaa", sum := "61165e40f16942c38394fb606eaca2084022b25732a70814491873274ab26468", func := "almery/almerylaw02.ClassMay", spec := "classMay", unfollowed := true, recurses := true, apart := false }
def ClassMaySaid : Prop := classMayRow.holds Try.pinned (OpenSpec.ofChange classMaySpec)

/-- ITS FALSE NEIGHBOUR: 'it returns false'. Refute it at one input. -/
def classMayWrong : ChangeSpec := { name := "classMay", fn := fun _ => fun
  | [d1, d2] => { results := [.lit (.bool false)], args := [d1, d2] }
  | _ => none }
def ClassMayWrongFalsely : Prop := classMayRow.holds Try.pinned (OpenSpec.ofChange classMayWrong)

/-- 'almerylaw02.ClassPicks': WHATEVER THE INPUT: true; the input reads as it did. -/
def classPicksSpec : ChangeSpec := { name := "classPicks", fn := fun _ => fun
  | [d1, d2] => { results := [.lit (.bool true)], args := [d1, d2] }
  | _ => none }
def classPicksRow : OpenClaim := { program := "ytbcmdpmliehojaa", sum := "61165e40f16942c38394fb606eaca2084022b25732a70814491873274ab26468", func := "almery/almerylaw02.ClassPicks", spec := "classPicks", unfollowed := true, recurses := true, apart := false }
def ClassPicksSaid : Prop := classPicksRow.holds Try.pinned (OpenSpec.ofChange classPicksSpec)

/-- ITS FALSE NEIGHBOUR: 'it returns false'. Refute it at one input. -/
def classPicksWrong : ChangeSpec := { name := "classPicks", fn := fun _ => fun
  | [d1, d2] => { results := [.lit (.bool false)], args := [d1, d2] }
  | _ => none }
def ClassPicksWrongFalsely : Prop := classPicksRow.holds Try.pinned (OpenSpec.ofChange classPicksWrong)

/-- 'almerylaw02.ClassTables': WHATEVER THE INPUT: true; the input reads as it did. -/
def classTablesSpec : ChangeSpec := { name := "classTables", fn := fun _ => fun
  | [d1, d2] => { results := [.lit (.bool true)], args := [d1, d2] }
  | _ => none }
def classTablesRow : OpenClaim := { program := "ytbcmdpmliehojaa", sum := "61165e40f16942c38394fb606eaca2084022b25732a70814491873274ab26468", func := "almery/almerylaw02.ClassTables", spec := "classTables", unfollowed := true, recurses := true, apart := false }
def ClassTablesSaid : Prop := classTablesRow.holds Try.pinned (OpenSpec.ofChange classTablesSpec)

/-- ITS FALSE NEIGHBOUR: 'it returns false'. Refute it at one input. -/
def classTablesWrong : ChangeSpec := { name := "classTables", fn := fun _ => fun
  | [d1, d2] => { results := [.lit (.bool false)], args := [d1, d2] }
  | _ => none }
def ClassTablesWrongFalsely : Prop := classTablesRow.holds Try.pinned (OpenSpec.ofChange classTablesWrong)

/-- 'almerylaw02.ClassLooks': WHATEVER THE INPUT: true; the input reads as it did. -/
def classLooksSpec : ChangeSpec := { name := "classLooks", fn := fun _ => fun
  | [d1, d2] => { results := [.lit (.bool true)], args := [d1, d2] }
  | _ => none }
def classLooksRow : OpenClaim := { program := "ytbcmdpmliehojaa", sum := "61165e40f16942c38394fb606eaca2084022b25732a70814491873274ab26468", func := "almery/almerylaw02.ClassLooks", spec := "classLooks", unfollowed := true, recurses := true, apart := false }
def ClassLooksSaid : Prop := classLooksRow.holds Try.pinned (OpenSpec.ofChange classLooksSpec)

/-- ITS FALSE NEIGHBOUR: 'it returns false'. Refute it at one input. -/
def classLooksWrong : ChangeSpec := { name := "classLooks", fn := fun _ => fun
  | [d1, d2] => { results := [.lit (.bool false)], args := [d1, d2] }
  | _ => none }
def ClassLooksWrongFalsely : Prop := classLooksRow.holds Try.pinned (OpenSpec.ofChange classLooksWrong)

/-- 'almerylaw02.ClassHolds': WHATEVER THE INPUT: true; the input reads as it did. -/
def classHoldsSpec : ChangeSpec := { name := "classHolds", fn := fun _ => fun
  | [d1, d2, d3] => { results := [.lit (.bool true)], args := [d1, d2, d3] }
  | _ => none }
def classHoldsRow : OpenClaim := { program := "ytbcmdpmliehojaa", sum := "61165e40f16942c38394fb606eaca2084022b25732a70814491873274ab26468", func := "almery/almerylaw02.ClassHolds", spec := "classHolds", unfollowed := true, recurses := true, apart := false }
def ClassHoldsSaid : Prop := classHoldsRow.holds Try.pinned (OpenSpec.ofChange classHoldsSpec)

/-- ITS FALSE NEIGHBOUR: 'it returns false'. Refute it at one input. -/
def classHoldsWrong : ChangeSpec := { name := "classHolds", fn := fun _ => fun
  | [d1, d2, d3] => { results := [.lit (.bool false)], args := [d1, d2, d3] }
  | _ => none }
def ClassHoldsWrongFalsely : Prop := classHoldsRow.holds Try.pinned (OpenSpec.ofChange classHoldsWrong)

/- THE SECOND FORM. 'bulk': how many values and letters a reading holds, each counted each time it is reached (what is shared counts as often as it is met; a slice's spare places count too). A statement '..UptoSaid' is the law's where the arguments, and the package variables that the reading takes, are together of bulk at most 1048576: NARROWER than '..Said'. Prove '..Said' where nothing that the law and all that it calls make is longer than what came in: it says more and counts as full. Else prove '..UptoSaid'. A law counts once. -/
mutual
def uptoBulk {H : Type} : DataW H → Nat
  | .lit (.string bytes) => bytes.length + 1
  | .lit _ => 1
  | .nil => 1
  | .ptr d => uptoBulk d + 1
  | .slice elems spare => uptoBulkAll elems + uptoBulkAll spare + 1
  | .agg parts => uptoBulkAll parts + 1
  | .iface _ d => uptoBulk d + 1
  | .map entries => uptoBulkEntries entries + 1
  | .held _ => 1
def uptoBulkAll {H : Type} : List (DataW H) → Nat
  | [] => 0
  | d :: r => uptoBulk d + uptoBulkAll r
def uptoBulkEntries {H : Type} : List (Lit × DataW H) → Nat
  | [] => 0
  | x :: r => uptoBulkEntry x + uptoBulkEntries r
def uptoBulkEntry {H : Type} : Lit × DataW H → Nat
  | (.string bytes, d) => bytes.length + uptoBulk d + 1
  | (_, d) => uptoBulk d + 1
 end
def uptoSmall : (H : Type) → List (DataW H) → Bool := fun _ ds => decide (uptoBulkAll ds ≤ 1048576)
def OpenSpec.upto (s : _root_.Go.ChangeSpec) : _root_.Go.OpenSpec := { _root_.Go.OpenSpec.ofChange s with cond := some uptoSmall }

/-- 'almerylaw02.ClassMay', WHERE WHAT IT READS IS OF BULK AT MOST 1048576: true; the input reads as it did. -/
def classMayUptoRow : OpenClaim := { program := "ytbcmdpmliehojaa", sum := "61165e40f16942c38394fb606eaca2084022b25732a70814491873274ab26468", func := "almery/almerylaw02.ClassMay", spec := "classMay", unfollowed := true, recurses := true, apart := false, narrowed := true }
def ClassMayUptoSaid : Prop := classMayUptoRow.holds Try.pinned (OpenSpec.upto classMaySpec)

/-- 'almerylaw02.ClassPicks', WHERE WHAT IT READS IS OF BULK AT MOST 1048576: true; the input reads as it did. -/
def classPicksUptoRow : OpenClaim := { program := "ytbcmdpmliehojaa", sum := "61165e40f16942c38394fb606eaca2084022b25732a70814491873274ab26468", func := "almery/almerylaw02.ClassPicks", spec := "classPicks", unfollowed := true, recurses := true, apart := false, narrowed := true }
def ClassPicksUptoSaid : Prop := classPicksUptoRow.holds Try.pinned (OpenSpec.upto classPicksSpec)

/-- 'almerylaw02.ClassTables', WHERE WHAT IT READS IS OF BULK AT MOST 1048576: true; the input reads as it did. -/
def classTablesUptoRow : OpenClaim := { program := "ytbcmdpmliehojaa", sum := "61165e40f16942c38394fb606eaca2084022b25732a70814491873274ab26468", func := "almery/almerylaw02.ClassTables", spec := "classTables", unfollowed := true, recurses := true, apart := false, narrowed := true }
def ClassTablesUptoSaid : Prop := classTablesUptoRow.holds Try.pinned (OpenSpec.upto classTablesSpec)

/-- 'almerylaw02.ClassLooks', WHERE WHAT IT READS IS OF BULK AT MOST 1048576: true; the input reads as it did. -/
def classLooksUptoRow : OpenClaim := { program := "ytbcmdpmliehojaa", sum := "61165e40f16942c38394fb606eaca2084022b25732a70814491873274ab26468", func := "almery/almerylaw02.ClassLooks", spec := "classLooks", unfollowed := true, recurses := true, apart := false, narrowed := true }
def ClassLooksUptoSaid : Prop := classLooksUptoRow.holds Try.pinned (OpenSpec.upto classLooksSpec)

/-- 'almerylaw02.ClassHolds', WHERE WHAT IT READS IS OF BULK AT MOST 1048576: true; the input reads as it did. -/
def classHoldsUptoRow : OpenClaim := { program := "ytbcmdpmliehojaa", sum := "61165e40f16942c38394fb606eaca2084022b25732a70814491873274ab26468", func := "almery/almerylaw02.ClassHolds", spec := "classHolds", unfollowed := true, recurses := true, apart := false, narrowed := true }
def ClassHoldsUptoSaid : Prop := classHoldsUptoRow.holds Try.pinned (OpenSpec.upto classHoldsSpec)

end Rows
end Go.Proofs.Ytbcmdpmliehojaa
