/-
  No cell of these rows narrows 'for every input' (looked for: loops, veiled, ifaces, maps, wideKeys, modest, calm, conditions, laid).
  DERIVED. THE GIVEN ROWS OF THIS SEAT. 5 by the template 'for every input the law returns true; each argument reads behind the call as it read before'; 0 by the template 'total and deterministic' (their statements: YthjbggdcninckaaTotals.lean).
  GIVEN WITH THE SEED: the statements are not yours to turn. If you find one false, say at which input.
  Laid BY PROGRAM, IN A SANDBOX (cutbox-rows.mjs): the forced cells as the released guide's own fill.sh prints them over the translation ef3c07edead6ae42… (all of the seat's roots in one cut). By AI agents, Wed Nov 11 2026. No macro, syntax, notation, axiom, sorry.
-/
import Derived.Test.YthjbggdcninckaaChecked
import GoSem.Claim
import GoSem.ClaimJoined
import GoSem.ClaimMapViews
import Derived.JoinedTies
import Derived.KernelRfl
namespace Go.Proofs.Ythjbggdcninckaa
/- THE CELL 'sum', in the pinned program and in every row, IS THE sha256 OF THE DUMP (.gsa) THAT YthjbggdcninckaaProg.lean LOADS. Nothing in Lean hashes anything: it is a label: what it is worth is what the hold of that sum in a sandbox is worth. -/
noncomputable def Try.pinned : Pinned := { name := "ythjbggdcninckaa", sum := "ef3c07edead6ae4272eb0fba195e98ecabd62958e1567d5fedda4dcb681afb3e", checked := Try.checked }
namespace Rows
def none {H : Type} : Left H := { results := [], args := [] }

/-- 'almerylaw07.RingNew': WHATEVER THE INPUT: true; the input reads as it did. -/
def ringNewSpec : ChangeSpec := { name := "ringNew", fn := fun _ => fun
  | [d1, d2] => { results := [.lit (.bool true)], args := [d1, d2] }
  | _ => none }
def ringNewRow : OpenClaim := { program := "ythjbggdcninckaa", sum := "ef3c07edead6ae4272eb0fba195e98ecabd62958e1567d5fedda4dcb681afb3e", func := "almery/almerylaw07.RingNew", spec := "ringNew", apart := false }
def RingNewSaid : Prop := ringNewRow.holds Try.pinned (OpenSpec.ofChange ringNewSpec)

/-- ITS FALSE NEIGHBOUR: 'it returns false'. Refute it at one input. -/
def ringNewWrong : ChangeSpec := { name := "ringNew", fn := fun _ => fun
  | [d1, d2] => { results := [.lit (.bool false)], args := [d1, d2] }
  | _ => none }
def RingNewWrongFalsely : Prop := ringNewRow.holds Try.pinned (OpenSpec.ofChange ringNewWrong)

/-- 'almerylaw07.RingActs': WHATEVER THE INPUT: true; the input reads as it did. -/
def ringActsSpec : ChangeSpec := { name := "ringActs", fn := fun _ => fun
  | [d] => { results := [.lit (.bool true)], args := [d] }
  | _ => none }
def ringActsRow : OpenClaim := { program := "ythjbggdcninckaa", sum := "ef3c07edead6ae4272eb0fba195e98ecabd62958e1567d5fedda4dcb681afb3e", func := "almery/almerylaw07.RingActs", spec := "ringActs", apart := false }
def RingActsSaid : Prop := ringActsRow.holds Try.pinned (OpenSpec.ofChange ringActsSpec)

/-- ITS FALSE NEIGHBOUR: 'it returns false'. Refute it at one input. -/
def ringActsWrong : ChangeSpec := { name := "ringActs", fn := fun _ => fun
  | [d] => { results := [.lit (.bool false)], args := [d] }
  | _ => none }
def RingActsWrongFalsely : Prop := ringActsRow.holds Try.pinned (OpenSpec.ofChange ringActsWrong)

/-- 'almerylaw07.RingWalk': WHATEVER THE INPUT: true; the input reads as it did. -/
def ringWalkSpec : ChangeSpec := { name := "ringWalk", fn := fun _ => fun
  | [d] => { results := [.lit (.bool true)], args := [d] }
  | _ => none }
def ringWalkRow : OpenClaim := { program := "ythjbggdcninckaa", sum := "ef3c07edead6ae4272eb0fba195e98ecabd62958e1567d5fedda4dcb681afb3e", func := "almery/almerylaw07.RingWalk", spec := "ringWalk", apart := false }
def RingWalkSaid : Prop := ringWalkRow.holds Try.pinned (OpenSpec.ofChange ringWalkSpec)

/-- ITS FALSE NEIGHBOUR: 'it returns false'. Refute it at one input. -/
def ringWalkWrong : ChangeSpec := { name := "ringWalk", fn := fun _ => fun
  | [d] => { results := [.lit (.bool false)], args := [d] }
  | _ => none }
def RingWalkWrongFalsely : Prop := ringWalkRow.holds Try.pinned (OpenSpec.ofChange ringWalkWrong)

/-- 'almerylaw07.RingBack': WHATEVER THE INPUT: true; the input reads as it did. -/
def ringBackSpec : ChangeSpec := { name := "ringBack", fn := fun _ => fun
  | [d1, d2, d3] => { results := [.lit (.bool true)], args := [d1, d2, d3] }
  | _ => none }
def ringBackRow : OpenClaim := { program := "ythjbggdcninckaa", sum := "ef3c07edead6ae4272eb0fba195e98ecabd62958e1567d5fedda4dcb681afb3e", func := "almery/almerylaw07.RingBack", spec := "ringBack", apart := false }
def RingBackSaid : Prop := ringBackRow.holds Try.pinned (OpenSpec.ofChange ringBackSpec)

/-- ITS FALSE NEIGHBOUR: 'it returns false'. Refute it at one input. -/
def ringBackWrong : ChangeSpec := { name := "ringBack", fn := fun _ => fun
  | [d1, d2, d3] => { results := [.lit (.bool false)], args := [d1, d2, d3] }
  | _ => none }
def RingBackWrongFalsely : Prop := ringBackRow.holds Try.pinned (OpenSpec.ofChange ringBackWrong)

/-- 'almerylaw07.RingNobody': WHATEVER THE INPUT: true; the input reads as it did. -/
def ringNobodySpec : ChangeSpec := { name := "ringNobody", fn := fun _ => fun
  | [d1, d2] => { results := [.lit (.bool true)], args := [d1, d2] }
  | _ => none }
def ringNobodyRow : OpenClaim := { program := "ythjbggdcninckaa", sum := "ef3c07edead6ae4272eb0fba195e98ecabd62958e1567d5fedda4dcb681afb3e", func := "almery/almerylaw07.RingNobody", spec := "ringNobody", apart := false }
def RingNobodySaid : Prop := ringNobodyRow.holds Try.pinned (OpenSpec.ofChange ringNobodySpec)

/-- ITS FALSE NEIGHBOUR: 'it returns false'. Refute it at one input. -/
def ringNobodyWrong : ChangeSpec := { name := "ringNobody", fn := fun _ => fun
  | [d1, d2] => { results := [.lit (.bool false)], args := [d1, d2] }
  | _ => none }
def RingNobodyWrongFalsely : Prop := ringNobodyRow.holds Try.pinned (OpenSpec.ofChange ringNobodyWrong)

/- THE SECOND FORM. 'bulk': how many values and letters a reading holds, each counted each time it is reached (what is shared counts as often as it is met; a slice's spare places count too). A statement '..UptoSaid' is the law's where the arguments, and the package variables that the reading takes, are together of bulk at most 1048576: NARROWER than '..Said'. Prove '..Said' where nothing that the law and all that it calls make is longer than what came in: it says more and counts as full. Else prove '..UptoSaid'. A law counts once. -/
mutual
def uptoBulk {H : Type} : DataW H → Nat
  | .lit (.string bytes) => bytes.length + 1
  | .lit _ => 1
  | .nil => 1
  | .ptr d => uptoBulk d + 1
  | .slice elems spare => uptoBulkAll elems + uptoBulkAll spare + 1
  | .agg parts => uptoBulkAll parts + 1
  | .iface _ d => uptoBulk d + 1
  | .map entries => uptoBulkEntries entries + 1
  | .held _ => 1
def uptoBulkAll {H : Type} : List (DataW H) → Nat
  | [] => 0
  | d :: r => uptoBulk d + uptoBulkAll r
def uptoBulkEntries {H : Type} : List (Lit × DataW H) → Nat
  | [] => 0
  | x :: r => uptoBulkEntry x + uptoBulkEntries r
def uptoBulkEntry {H : Type} : Lit × DataW H → Nat
  | (.string bytes, d) => bytes.length + uptoBulk d + 1
  | (_, d) => uptoBulk d + 1
 end
def uptoSmall : (H : Type) → List (DataW H) → Bool := fun _ ds => decide (uptoBulkAll ds ≤ 1048576)
def OpenSpec.upto (s : _root_.Go.ChangeSpec) : _root_.Go.OpenSpec := { _root_.Go.OpenSpec.ofChange s with cond := some uptoSmall }

/-- 'almerylaw07.RingNew', WHERE WHAT IT READS IS OF BULK AT MOST 1048576: true; the input reads as it did. -/
def ringNewUptoRow : OpenClaim := { program := "ythjbggdcninckaa", sum := "ef3c07edead6ae4272eb0fba195e98ecabd62958e1567d5fedda4dcb681afb3e", func := "almery/almerylaw07.RingNew", spec := "ringNew", apart := false, narrowed := true }
def RingNewUptoSaid : Prop := ringNewUptoRow.holds Try.pinned (OpenSpec.upto ringNewSpec)

/-- 'almerylaw07.RingActs', WHERE WHAT IT READS IS OF BULK AT MOST 1048576: true; the input reads as it did. -/
def ringActsUptoRow : OpenClaim := { program := "ythjbggdcninckaa", sum := "ef3c07edead6ae4272eb0fba195e98ecabd62958e1567d5fedda4dcb681afb3e", func := "almery/almerylaw07.RingActs", spec := "ringActs", apart := false, narrowed := true }
def RingActsUptoSaid : Prop := ringActsUptoRow.holds Try.pinned (OpenSpec.upto ringActsSpec)

/-- 'almerylaw07.RingWalk', WHERE WHAT IT READS IS OF BULK AT MOST 1048576: true; the input reads as it did. -/
def ringWalkUptoRow : OpenClaim := { program := "ythjbggdcninckaa", sum := "ef3c07edead6ae4272eb0fba195e98ecabd62958e1567d5fedda4dcb681afb3e", func := "almery/almerylaw07.RingWalk", spec := "ringWalk", apart := false, narrowed := true }
def RingWalkUptoSaid : Prop := ringWalkUptoRow.holds Try.pinned (OpenSpec.upto ringWalkSpec)

/-- 'almerylaw07.RingBack', WHERE WHAT IT READS IS OF BULK AT MOST 1048576: true; the input reads as it did. -/
def ringBackUptoRow : OpenClaim := { program := "ythjbggdcninckaa", sum := "ef3c07edead6ae4272eb0fba195e98ecabd62958e1567d5fedda4dcb681afb3e", func := "almery/almerylaw07.RingBack", spec := "ringBack", apart := false, narrowed := true }
def RingBackUptoSaid : Prop := ringBackUptoRow.holds Try.pinned (OpenSpec.upto ringBackSpec)

/-- 'almerylaw07.RingNobody', WHERE WHAT IT READS IS OF BULK AT MOST 1048576: true; the input reads as it did. -/
def ringNobodyUptoRow : OpenClaim := { program := "ythjbggdcninckaa", sum := "ef3c07edead6ae4272eb0fba195e98ecabd62958e1567d5fedda4dcb681afb3e", func := "almery/almerylaw07.RingNobody", spec := "ringNobody", apart := false, narrowed := true }
def RingNobodyUptoSaid : Prop := ringNobodyUptoRow.holds Try.pinned (OpenSpec.upto ringNobodySpec)

end Rows
end Go.Proofs.Ythjbggdcninckaa
