/-
  No cell of these rows narrows 'for every input' (looked for: loops, veiled, ifaces, maps, wideKeys, modest, calm, conditions, laid).
  DERIVED. THE GIVEN ROWS OF THIS SEAT. 5 by the template 'for every input the law returns true; each argument reads behind the call as it read before'; 0 by the template 'total and deterministic' (their statements: YtamaocdchlioaaaTotals.lean).
  GIVEN WITH THE SEED: the statements are not yours to turn. If you find one false, say at which input.
  Laid BY PROGRAM, IN A SANDBOX (cutbox-rows.mjs): the forced cells as the released guide's own fill.sh prints them over the translation c54f106a07a28640… (all of the seat's roots in one cut). By AI agents, Wed Nov 11 2026. No macro, syntax, notation, axiom, sorry.
-/
import Derived.Test.YtamaocdchlioaaaChecked
import GoSem.Claim
import GoSem.ClaimJoined
import GoSem.ClaimMapViews
import Derived.JoinedTies
import Derived.KernelRfl
namespace Go.Proofs.Ytamaocdchlioaaa
/- THE CELL 'sum', in the pinned program and in every row, IS THE sha256 OF THE DUMP (.gsa) THAT YtamaocdchlioaaaProg.lean LOADS. Nothing in Lean hashes anything: it is a label: what it is worth is what the hold of that sum in a sandbox is worth. -/
noncomputable def Try.pinned : Pinned := { name := "ytamaocdchlioaaa", sum := "c54f106a07a286408c248c31475a16fb91bce578019062f6ba596bbcfba77922", checked := Try.checked }
namespace Rows
def none {H : Type} : Left H := { results := [], args := [] }

/-- 'almerylaw19.OpPuts': WHATEVER THE INPUT: true; the input reads as it did. -/
def opPutsSpec : ChangeSpec := { name := "opPuts", fn := fun _ => fun
  | [d] => { results := [.lit (.bool true)], args := [d] }
  | _ => none }
def opPutsRow : OpenClaim := { program := "ytamaocdchlioaaa", sum := "c54f106a07a286408c248c31475a16fb91bce578019062f6ba596bbcfba77922", func := "almery/almerylaw19.OpPuts", spec := "opPuts", unfollowed := true, recurses := true, apart := false }
def OpPutsSaid : Prop := opPutsRow.holds Try.pinned (OpenSpec.ofChange opPutsSpec)

/-- ITS FALSE NEIGHBOUR: 'it returns false'. Refute it at one input. -/
def opPutsWrong : ChangeSpec := { name := "opPuts", fn := fun _ => fun
  | [d] => { results := [.lit (.bool false)], args := [d] }
  | _ => none }
def OpPutsWrongFalsely : Prop := opPutsRow.holds Try.pinned (OpenSpec.ofChange opPutsWrong)

/-- 'almerylaw19.OpTakes': WHATEVER THE INPUT: true; the input reads as it did. -/
def opTakesSpec : ChangeSpec := { name := "opTakes", fn := fun _ => fun
  | [d] => { results := [.lit (.bool true)], args := [d] }
  | _ => none }
def opTakesRow : OpenClaim := { program := "ytamaocdchlioaaa", sum := "c54f106a07a286408c248c31475a16fb91bce578019062f6ba596bbcfba77922", func := "almery/almerylaw19.OpTakes", spec := "opTakes", unfollowed := true, recurses := true, apart := false }
def OpTakesSaid : Prop := opTakesRow.holds Try.pinned (OpenSpec.ofChange opTakesSpec)

/-- ITS FALSE NEIGHBOUR: 'it returns false'. Refute it at one input. -/
def opTakesWrong : ChangeSpec := { name := "opTakes", fn := fun _ => fun
  | [d] => { results := [.lit (.bool false)], args := [d] }
  | _ => none }
def OpTakesWrongFalsely : Prop := opTakesRow.holds Try.pinned (OpenSpec.ofChange opTakesWrong)

/-- 'almerylaw19.OpBack': WHATEVER THE INPUT: true; the input reads as it did. -/
def opBackSpec : ChangeSpec := { name := "opBack", fn := fun _ => fun
  | [d1, d2] => { results := [.lit (.bool true)], args := [d1, d2] }
  | _ => none }
def opBackRow : OpenClaim := { program := "ytamaocdchlioaaa", sum := "c54f106a07a286408c248c31475a16fb91bce578019062f6ba596bbcfba77922", func := "almery/almerylaw19.OpBack", spec := "opBack", unfollowed := true, recurses := true, apart := false }
def OpBackSaid : Prop := opBackRow.holds Try.pinned (OpenSpec.ofChange opBackSpec)

/-- ITS FALSE NEIGHBOUR: 'it returns false'. Refute it at one input. -/
def opBackWrong : ChangeSpec := { name := "opBack", fn := fun _ => fun
  | [d1, d2] => { results := [.lit (.bool false)], args := [d1, d2] }
  | _ => none }
def OpBackWrongFalsely : Prop := opBackRow.holds Try.pinned (OpenSpec.ofChange opBackWrong)

/-- 'almerylaw19.OpOne': WHATEVER THE INPUT: true; the input reads as it did. -/
def opOneSpec : ChangeSpec := { name := "opOne", fn := fun _ => fun
  | [d] => { results := [.lit (.bool true)], args := [d] }
  | _ => none }
def opOneRow : OpenClaim := { program := "ytamaocdchlioaaa", sum := "c54f106a07a286408c248c31475a16fb91bce578019062f6ba596bbcfba77922", func := "almery/almerylaw19.OpOne", spec := "opOne", unfollowed := true, recurses := true, apart := false }
def OpOneSaid : Prop := opOneRow.holds Try.pinned (OpenSpec.ofChange opOneSpec)

/-- ITS FALSE NEIGHBOUR: 'it returns false'. Refute it at one input. -/
def opOneWrong : ChangeSpec := { name := "opOne", fn := fun _ => fun
  | [d] => { results := [.lit (.bool false)], args := [d] }
  | _ => none }
def OpOneWrongFalsely : Prop := opOneRow.holds Try.pinned (OpenSpec.ofChange opOneWrong)

/-- 'almerylaw19.OpJoins': WHATEVER THE INPUT: true; the input reads as it did. -/
def opJoinsSpec : ChangeSpec := { name := "opJoins", fn := fun _ => fun
  | [d1, d2] => { results := [.lit (.bool true)], args := [d1, d2] }
  | _ => none }
def opJoinsRow : OpenClaim := { program := "ytamaocdchlioaaa", sum := "c54f106a07a286408c248c31475a16fb91bce578019062f6ba596bbcfba77922", func := "almery/almerylaw19.OpJoins", spec := "opJoins", unfollowed := true, recurses := true, apart := false }
def OpJoinsSaid : Prop := opJoinsRow.holds Try.pinned (OpenSpec.ofChange opJoinsSpec)

/-- ITS FALSE NEIGHBOUR: 'it returns false'. Refute it at one input. -/
def opJoinsWrong : ChangeSpec := { name := "opJoins", fn := fun _ => fun
  | [d1, d2] => { results := [.lit (.bool false)], args := [d1, d2] }
  | _ => none }
def OpJoinsWrongFalsely : Prop := opJoinsRow.holds Try.pinned (OpenSpec.ofChange opJoinsWrong)

/- THE SECOND FORM. 'bulk': how many values and letters a reading holds, each counted each time it is reached (what is shared counts as often as it is met; a slice's spare places count too). A statement '..UptoSaid' is the law's where the arguments, and the package variables that the reading takes, are together of bulk at most 1048576: NARROWER than '..Said'. Prove '..Said' where nothing that the law and all that it calls make is longer than what came in: it says more and counts as full. Else prove '..UptoSaid'. A law counts once. -/
mutual
def uptoBulk {H : Type} : DataW H → Nat
  | .lit (.string bytes) => bytes.length + 1
  | .lit _ => 1
  | .nil => 1
  | .ptr d => uptoBulk d + 1
  | .slice elems spare => uptoBulkAll elems + uptoBulkAll spare + 1
  | .agg parts => uptoBulkAll parts + 1
  | .iface _ d => uptoBulk d + 1
  | .map entries => uptoBulkEntries entries + 1
  | .held _ => 1
def uptoBulkAll {H : Type} : List (DataW H) → Nat
  | [] => 0
  | d :: r => uptoBulk d + uptoBulkAll r
def uptoBulkEntries {H : Type} : List (Lit × DataW H) → Nat
  | [] => 0
  | x :: r => uptoBulkEntry x + uptoBulkEntries r
def uptoBulkEntry {H : Type} : Lit × DataW H → Nat
  | (.string bytes, d) => bytes.length + uptoBulk d + 1
  | (_, d) => uptoBulk d + 1
 end
def uptoSmall : (H : Type) → List (DataW H) → Bool := fun _ ds => decide (uptoBulkAll ds ≤ 1048576)
def OpenSpec.upto (s : _root_.Go.ChangeSpec) : _root_.Go.OpenSpec := { _root_.Go.OpenSpec.ofChange s with cond := some uptoSmall }

/-- 'almerylaw19.OpPuts', WHERE WHAT IT READS IS OF BULK AT MOST 1048576: true; the input reads as it did. -/
def opPutsUptoRow : OpenClaim := { program := "ytamaocdchlioaaa", sum := "c54f106a07a286408c248c31475a16fb91bce578019062f6ba596bbcfba77922", func := "almery/almerylaw19.OpPuts", spec := "opPuts", unfollowed := true, recurses := true, apart := false, narrowed := true }
def OpPutsUptoSaid : Prop := opPutsUptoRow.holds Try.pinned (OpenSpec.upto opPutsSpec)

/-- 'almerylaw19.OpTakes', WHERE WHAT IT READS IS OF BULK AT MOST 1048576: true; the input reads as it did. -/
def opTakesUptoRow : OpenClaim := { program := "ytamaocdchlioaaa", sum := "c54f106a07a286408c248c31475a16fb91bce578019062f6ba596bbcfba77922", func := "almery/almerylaw19.OpTakes", spec := "opTakes", unfollowed := true, recurses := true, apart := false, narrowed := true }
def OpTakesUptoSaid : Prop := opTakesUptoRow.holds Try.pinned (OpenSpec.upto opTakesSpec)

/-- 'almerylaw19.OpBack', WHERE WHAT IT READS IS OF BULK AT MOST 1048576: true; the input reads as it did. -/
def opBackUptoRow : OpenClaim := { program := "ytamaocdchlioaaa", sum := "c54f106a07a286408c248c31475a16fb91bce578019062f6ba596bbcfba77922", func := "almery/almerylaw19.OpBack", spec := "opBack", unfollowed := true, recurses := true, apart := false, narrowed := true }
def OpBackUptoSaid : Prop := opBackUptoRow.holds Try.pinned (OpenSpec.upto opBackSpec)

/-- 'almerylaw19.OpOne', WHERE WHAT IT READS IS OF BULK AT MOST 1048576: true; the input reads as it did. -/
def opOneUptoRow : OpenClaim := { program := "ytamaocdchlioaaa", sum := "c54f106a07a286408c248c31475a16fb91bce578019062f6ba596bbcfba77922", func := "almery/almerylaw19.OpOne", spec := "opOne", unfollowed := true, recurses := true, apart := false, narrowed := true }
def OpOneUptoSaid : Prop := opOneUptoRow.holds Try.pinned (OpenSpec.upto opOneSpec)

/-- 'almerylaw19.OpJoins', WHERE WHAT IT READS IS OF BULK AT MOST 1048576: true; the input reads as it did. -/
def opJoinsUptoRow : OpenClaim := { program := "ytamaocdchlioaaa", sum := "c54f106a07a286408c248c31475a16fb91bce578019062f6ba596bbcfba77922", func := "almery/almerylaw19.OpJoins", spec := "opJoins", unfollowed := true, recurses := true, apart := false, narrowed := true }
def OpJoinsUptoSaid : Prop := opJoinsUptoRow.holds Try.pinned (OpenSpec.upto opJoinsSpec)

end Rows
end Go.Proofs.Ytamaocdchlioaaa
