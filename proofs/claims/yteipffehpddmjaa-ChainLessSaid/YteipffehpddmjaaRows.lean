/-
  No cell of these rows narrows 'for every input' (looked for: loops, veiled, ifaces, maps, wideKeys, modest, calm, conditions, laid).
  DERIVED. THE GIVEN ROWS OF THIS SEAT. 4 by the template 'for every input the law returns true; each argument reads behind the call as it read before'; 0 by the template 'total and deterministic' (their statements: YteipffehpddmjaaTotals.lean).
  GIVEN WITH THE SEED: the statements are not yours to turn. If you find one false, say at which input.
  Laid BY PROGRAM, IN A SANDBOX (cutbox-rows.mjs): the forced cells as the released guide's own fill.sh prints them over the translation c7671e1652f015c5… (all of the seat's roots in one cut). By AI agents, Wed Nov 11 2026. No macro, syntax, notation, axiom, sorry.
-/
import Derived.Test.YteipffehpddmjaaChecked
import GoSem.Claim
import GoSem.ClaimJoined
import GoSem.ClaimMapViews
import Derived.JoinedTies
import Derived.KernelRfl
namespace Go.Proofs.Yteipffehpddmjaa
/- THE CELL 'sum', in the pinned program and in every row, IS THE sha256 OF THE DUMP (.gsa) THAT YteipffehpddmjaaProg.lean LOADS. Nothing in Lean hashes anything: it is a label: what it is worth is what the hold of that sum in a sandbox is worth. -/
noncomputable def Try.pinned : Pinned := { name := "yteipffehpddmjaa", sum := "c7671e1652f015c5b41c151d39d682c2d00e1ec2977073e871e78f74d4bac49d", checked := Try.checked }
namespace Rows
def none {H : Type} : Left H := { results := [], args := [] }

/-- 'almerylaw16.ChainCuts': WHATEVER THE INPUT: true; the input reads as it did. -/
def chainCutsSpec : ChangeSpec := { name := "chainCuts", fn := fun _ => fun
  | [d1, d2, d3] => { results := [.lit (.bool true)], args := [d1, d2, d3] }
  | _ => none }
def chainCutsRow : OpenClaim := { program := "yteipffehpddmjaa", sum := "c7671e1652f015c5b41c151d39d682c2d00e1ec2977073e871e78f74d4bac49d", func := "almery/almerylaw16.ChainCuts", spec := "chainCuts", unfollowed := true, recurses := true, apart := false }
def ChainCutsSaid : Prop := chainCutsRow.holds Try.pinned (OpenSpec.ofChange chainCutsSpec)

/-- ITS FALSE NEIGHBOUR: 'it returns false'. Refute it at one input. -/
def chainCutsWrong : ChangeSpec := { name := "chainCuts", fn := fun _ => fun
  | [d1, d2, d3] => { results := [.lit (.bool false)], args := [d1, d2, d3] }
  | _ => none }
def ChainCutsWrongFalsely : Prop := chainCutsRow.holds Try.pinned (OpenSpec.ofChange chainCutsWrong)

/-- 'almerylaw16.ChainAll': WHATEVER THE INPUT: true; the input reads as it did. -/
def chainAllSpec : ChangeSpec := { name := "chainAll", fn := fun _ => fun
  | [d1, d2, d3] => { results := [.lit (.bool true)], args := [d1, d2, d3] }
  | _ => none }
def chainAllRow : OpenClaim := { program := "yteipffehpddmjaa", sum := "c7671e1652f015c5b41c151d39d682c2d00e1ec2977073e871e78f74d4bac49d", func := "almery/almerylaw16.ChainAll", spec := "chainAll", unfollowed := true, recurses := true, apart := false }
def ChainAllSaid : Prop := chainAllRow.holds Try.pinned (OpenSpec.ofChange chainAllSpec)

/-- ITS FALSE NEIGHBOUR: 'it returns false'. Refute it at one input. -/
def chainAllWrong : ChangeSpec := { name := "chainAll", fn := fun _ => fun
  | [d1, d2, d3] => { results := [.lit (.bool false)], args := [d1, d2, d3] }
  | _ => none }
def ChainAllWrongFalsely : Prop := chainAllRow.holds Try.pinned (OpenSpec.ofChange chainAllWrong)

/-- 'almerylaw16.ChainJoins': WHATEVER THE INPUT: true; the input reads as it did. -/
def chainJoinsSpec : ChangeSpec := { name := "chainJoins", fn := fun _ => fun
  | [d1, d2, d3] => { results := [.lit (.bool true)], args := [d1, d2, d3] }
  | _ => none }
def chainJoinsRow : OpenClaim := { program := "yteipffehpddmjaa", sum := "c7671e1652f015c5b41c151d39d682c2d00e1ec2977073e871e78f74d4bac49d", func := "almery/almerylaw16.ChainJoins", spec := "chainJoins", unfollowed := true, recurses := true, apart := false }
def ChainJoinsSaid : Prop := chainJoinsRow.holds Try.pinned (OpenSpec.ofChange chainJoinsSpec)

/-- ITS FALSE NEIGHBOUR: 'it returns false'. Refute it at one input. -/
def chainJoinsWrong : ChangeSpec := { name := "chainJoins", fn := fun _ => fun
  | [d1, d2, d3] => { results := [.lit (.bool false)], args := [d1, d2, d3] }
  | _ => none }
def ChainJoinsWrongFalsely : Prop := chainJoinsRow.holds Try.pinned (OpenSpec.ofChange chainJoinsWrong)

/-- 'almerylaw16.ChainLess': WHATEVER THE INPUT: true; the input reads as it did. -/
def chainLessSpec : ChangeSpec := { name := "chainLess", fn := fun _ => fun
  | [d1, d2] => { results := [.lit (.bool true)], args := [d1, d2] }
  | _ => none }
def chainLessRow : OpenClaim := { program := "yteipffehpddmjaa", sum := "c7671e1652f015c5b41c151d39d682c2d00e1ec2977073e871e78f74d4bac49d", func := "almery/almerylaw16.ChainLess", spec := "chainLess", unfollowed := true, recurses := true, apart := false }
def ChainLessSaid : Prop := chainLessRow.holds Try.pinned (OpenSpec.ofChange chainLessSpec)

/-- ITS FALSE NEIGHBOUR: 'it returns false'. Refute it at one input. -/
def chainLessWrong : ChangeSpec := { name := "chainLess", fn := fun _ => fun
  | [d1, d2] => { results := [.lit (.bool false)], args := [d1, d2] }
  | _ => none }
def ChainLessWrongFalsely : Prop := chainLessRow.holds Try.pinned (OpenSpec.ofChange chainLessWrong)

/- THE SECOND FORM. 'bulk': how many values and letters a reading holds, each counted each time it is reached (what is shared counts as often as it is met; a slice's spare places count too). A statement '..UptoSaid' is the law's where the arguments, and the package variables that the reading takes, are together of bulk at most 1048576: NARROWER than '..Said'. Prove '..Said' where nothing that the law and all that it calls make is longer than what came in: it says more and counts as full. Else prove '..UptoSaid'. A law counts once. -/
mutual
def uptoBulk {H : Type} : DataW H → Nat
  | .lit (.string bytes) => bytes.length + 1
  | .lit _ => 1
  | .nil => 1
  | .ptr d => uptoBulk d + 1
  | .slice elems spare => uptoBulkAll elems + uptoBulkAll spare + 1
  | .agg parts => uptoBulkAll parts + 1
  | .iface _ d => uptoBulk d + 1
  | .map entries => uptoBulkEntries entries + 1
  | .held _ => 1
def uptoBulkAll {H : Type} : List (DataW H) → Nat
  | [] => 0
  | d :: r => uptoBulk d + uptoBulkAll r
def uptoBulkEntries {H : Type} : List (Lit × DataW H) → Nat
  | [] => 0
  | x :: r => uptoBulkEntry x + uptoBulkEntries r
def uptoBulkEntry {H : Type} : Lit × DataW H → Nat
  | (.string bytes, d) => bytes.length + uptoBulk d + 1
  | (_, d) => uptoBulk d + 1
 end
def uptoSmall : (H : Type) → List (DataW H) → Bool := fun _ ds => decide (uptoBulkAll ds ≤ 1048576)
def OpenSpec.upto (s : _root_.Go.ChangeSpec) : _root_.Go.OpenSpec := { _root_.Go.OpenSpec.ofChange s with cond := some uptoSmall }

/-- 'almerylaw16.ChainCuts', WHERE WHAT IT READS IS OF BULK AT MOST 1048576: true; the input reads as it did. -/
def chainCutsUptoRow : OpenClaim := { program := "yteipffehpddmjaa", sum := "c7671e1652f015c5b41c151d39d682c2d00e1ec2977073e871e78f74d4bac49d", func := "almery/almerylaw16.ChainCuts", spec := "chainCuts", unfollowed := true, recurses := true, apart := false, narrowed := true }
def ChainCutsUptoSaid : Prop := chainCutsUptoRow.holds Try.pinned (OpenSpec.upto chainCutsSpec)

/-- 'almerylaw16.ChainAll', WHERE WHAT IT READS IS OF BULK AT MOST 1048576: true; the input reads as it did. -/
def chainAllUptoRow : OpenClaim := { program := "yteipffehpddmjaa", sum := "c7671e1652f015c5b41c151d39d682c2d00e1ec2977073e871e78f74d4bac49d", func := "almery/almerylaw16.ChainAll", spec := "chainAll", unfollowed := true, recurses := true, apart := false, narrowed := true }
def ChainAllUptoSaid : Prop := chainAllUptoRow.holds Try.pinned (OpenSpec.upto chainAllSpec)

/-- 'almerylaw16.ChainJoins', WHERE WHAT IT READS IS OF BULK AT MOST 1048576: true; the input reads as it did. -/
def chainJoinsUptoRow : OpenClaim := { program := "yteipffehpddmjaa", sum := "c7671e1652f015c5b41c151d39d682c2d00e1ec2977073e871e78f74d4bac49d", func := "almery/almerylaw16.ChainJoins", spec := "chainJoins", unfollowed := true, recurses := true, apart := false, narrowed := true }
def ChainJoinsUptoSaid : Prop := chainJoinsUptoRow.holds Try.pinned (OpenSpec.upto chainJoinsSpec)

/-- 'almerylaw16.ChainLess', WHERE WHAT IT READS IS OF BULK AT MOST 1048576: true; the input reads as it did. -/
def chainLessUptoRow : OpenClaim := { program := "yteipffehpddmjaa", sum := "c7671e1652f015c5b41c151d39d682c2d00e1ec2977073e871e78f74d4bac49d", func := "almery/almerylaw16.ChainLess", spec := "chainLess", unfollowed := true, recurses := true, apart := false, narrowed := true }
def ChainLessUptoSaid : Prop := chainLessUptoRow.holds Try.pinned (OpenSpec.upto chainLessSpec)

end Rows
end Go.Proofs.Yteipffehpddmjaa
