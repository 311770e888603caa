/-
  No cell of these rows narrows 'for every input' (looked for: loops, veiled, ifaces, maps, wideKeys, modest, calm, conditions, laid).
  DERIVED. THE GIVEN ROWS OF THIS SEAT. 5 by the template 'for every input the law returns true; each argument reads behind the call as it read before'; 0 by the template 'total and deterministic' (their statements: YtejppboaiihhaaaTotals.lean).
  GIVEN WITH THE SEED: the statements are not yours to turn. If you find one false, say at which input.
  Laid BY PROGRAM, IN A SANDBOX (cutbox-rows.mjs): the forced cells as the released guide's own fill.sh prints them over the translation 65533f9bbe40bc25… (all of the seat's roots in one cut). By AI agents, Wed Nov 11 2026. No macro, syntax, notation, axiom, sorry.
-/
import Derived.Test.YtejppboaiihhaaaChecked
import GoSem.Claim
import GoSem.ClaimJoined
import GoSem.ClaimMapViews
import Derived.JoinedTies
import Derived.KernelRfl
namespace Go.Proofs.Ytejppboaiihhaaa
/- THE CELL 'sum', in the pinned program and in every row, IS THE sha256 OF THE DUMP (.gsa) THAT YtejppboaiihhaaaProg.lean LOADS. Nothing in Lean hashes anything: it is a label: what it is worth is what the hold of that sum in a sandbox is worth. -/
noncomputable def Try.pinned : Pinned := { name := "ytejppboaiihhaaa", sum := "65533f9bbe40bc25fcebfcc3ced9605610ac56d51bc1a017f12d5fdd5205e7fb", checked := Try.checked }
namespace Rows
def none {H : Type} : Left H := { results := [], args := [] }

/-- 'almerylaw09.IdentJoins': WHATEVER THE INPUT: true; the input reads as it did. -/
def identJoinsSpec : ChangeSpec := { name := "identJoins", fn := fun _ => fun
  | [d1, d2] => { results := [.lit (.bool true)], args := [d1, d2] }
  | _ => none }
def identJoinsRow : OpenClaim := { program := "ytejppboaiihhaaa", sum := "65533f9bbe40bc25fcebfcc3ced9605610ac56d51bc1a017f12d5fdd5205e7fb", func := "almery/almerylaw09.IdentJoins", spec := "identJoins", apart := false }
def IdentJoinsSaid : Prop := identJoinsRow.holds Try.pinned (OpenSpec.ofChange identJoinsSpec)

/-- ITS FALSE NEIGHBOUR: 'it returns false'. Refute it at one input. -/
def identJoinsWrong : ChangeSpec := { name := "identJoins", fn := fun _ => fun
  | [d1, d2] => { results := [.lit (.bool false)], args := [d1, d2] }
  | _ => none }
def IdentJoinsWrongFalsely : Prop := identJoinsRow.holds Try.pinned (OpenSpec.ofChange identJoinsWrong)

/-- 'almerylaw09.IdentSplits': WHATEVER THE INPUT: true; the input reads as it did. -/
def identSplitsSpec : ChangeSpec := { name := "identSplits", fn := fun _ => fun
  | [d] => { results := [.lit (.bool true)], args := [d] }
  | _ => none }
def identSplitsRow : OpenClaim := { program := "ytejppboaiihhaaa", sum := "65533f9bbe40bc25fcebfcc3ced9605610ac56d51bc1a017f12d5fdd5205e7fb", func := "almery/almerylaw09.IdentSplits", spec := "identSplits", apart := false }
def IdentSplitsSaid : Prop := identSplitsRow.holds Try.pinned (OpenSpec.ofChange identSplitsSpec)

/-- ITS FALSE NEIGHBOUR: 'it returns false'. Refute it at one input. -/
def identSplitsWrong : ChangeSpec := { name := "identSplits", fn := fun _ => fun
  | [d] => { results := [.lit (.bool false)], args := [d] }
  | _ => none }
def IdentSplitsWrongFalsely : Prop := identSplitsRow.holds Try.pinned (OpenSpec.ofChange identSplitsWrong)

/-- 'almerylaw09.IdentBack': WHATEVER THE INPUT: true; the input reads as it did. -/
def identBackSpec : ChangeSpec := { name := "identBack", fn := fun _ => fun
  | [d1, d2] => { results := [.lit (.bool true)], args := [d1, d2] }
  | _ => none }
def identBackRow : OpenClaim := { program := "ytejppboaiihhaaa", sum := "65533f9bbe40bc25fcebfcc3ced9605610ac56d51bc1a017f12d5fdd5205e7fb", func := "almery/almerylaw09.IdentBack", spec := "identBack", apart := false }
def IdentBackSaid : Prop := identBackRow.holds Try.pinned (OpenSpec.ofChange identBackSpec)

/-- ITS FALSE NEIGHBOUR: 'it returns false'. Refute it at one input. -/
def identBackWrong : ChangeSpec := { name := "identBack", fn := fun _ => fun
  | [d1, d2] => { results := [.lit (.bool false)], args := [d1, d2] }
  | _ => none }
def IdentBackWrongFalsely : Prop := identBackRow.holds Try.pinned (OpenSpec.ofChange identBackWrong)

/-- 'almerylaw09.IdentOne': WHATEVER THE INPUT: true; the input reads as it did. -/
def identOneSpec : ChangeSpec := { name := "identOne", fn := fun _ => fun
  | [d] => { results := [.lit (.bool true)], args := [d] }
  | _ => none }
def identOneRow : OpenClaim := { program := "ytejppboaiihhaaa", sum := "65533f9bbe40bc25fcebfcc3ced9605610ac56d51bc1a017f12d5fdd5205e7fb", func := "almery/almerylaw09.IdentOne", spec := "identOne", apart := false }
def IdentOneSaid : Prop := identOneRow.holds Try.pinned (OpenSpec.ofChange identOneSpec)

/-- ITS FALSE NEIGHBOUR: 'it returns false'. Refute it at one input. -/
def identOneWrong : ChangeSpec := { name := "identOne", fn := fun _ => fun
  | [d] => { results := [.lit (.bool false)], args := [d] }
  | _ => none }
def IdentOneWrongFalsely : Prop := identOneRow.holds Try.pinned (OpenSpec.ofChange identOneWrong)

/-- 'almerylaw09.IdentApart': WHATEVER THE INPUT: true; the input reads as it did. -/
def identApartSpec : ChangeSpec := { name := "identApart", fn := fun _ => fun
  | [d1, d2] => { results := [.lit (.bool true)], args := [d1, d2] }
  | _ => none }
def identApartRow : OpenClaim := { program := "ytejppboaiihhaaa", sum := "65533f9bbe40bc25fcebfcc3ced9605610ac56d51bc1a017f12d5fdd5205e7fb", func := "almery/almerylaw09.IdentApart", spec := "identApart", apart := false }
def IdentApartSaid : Prop := identApartRow.holds Try.pinned (OpenSpec.ofChange identApartSpec)

/-- ITS FALSE NEIGHBOUR: 'it returns false'. Refute it at one input. -/
def identApartWrong : ChangeSpec := { name := "identApart", fn := fun _ => fun
  | [d1, d2] => { results := [.lit (.bool false)], args := [d1, d2] }
  | _ => none }
def IdentApartWrongFalsely : Prop := identApartRow.holds Try.pinned (OpenSpec.ofChange identApartWrong)

/- THE SECOND FORM. 'bulk': how many values and letters a reading holds, each counted each time it is reached (what is shared counts as often as it is met; a slice's spare places count too). A statement '..UptoSaid' is the law's where the arguments, and the package variables that the reading takes, are together of bulk at most 1048576: NARROWER than '..Said'. Prove '..Said' where nothing that the law and all that it calls make is longer than what came in: it says more and counts as full. Else prove '..UptoSaid'. A law counts once. -/
mutual
def uptoBulk {H : Type} : DataW H → Nat
  | .lit (.string bytes) => bytes.length + 1
  | .lit _ => 1
  | .nil => 1
  | .ptr d => uptoBulk d + 1
  | .slice elems spare => uptoBulkAll elems + uptoBulkAll spare + 1
  | .agg parts => uptoBulkAll parts + 1
  | .iface _ d => uptoBulk d + 1
  | .map entries => uptoBulkEntries entries + 1
  | .held _ => 1
def uptoBulkAll {H : Type} : List (DataW H) → Nat
  | [] => 0
  | d :: r => uptoBulk d + uptoBulkAll r
def uptoBulkEntries {H : Type} : List (Lit × DataW H) → Nat
  | [] => 0
  | x :: r => uptoBulkEntry x + uptoBulkEntries r
def uptoBulkEntry {H : Type} : Lit × DataW H → Nat
  | (.string bytes, d) => bytes.length + uptoBulk d + 1
  | (_, d) => uptoBulk d + 1
 end
def uptoSmall : (H : Type) → List (DataW H) → Bool := fun _ ds => decide (uptoBulkAll ds ≤ 1048576)
def OpenSpec.upto (s : _root_.Go.ChangeSpec) : _root_.Go.OpenSpec := { _root_.Go.OpenSpec.ofChange s with cond := some uptoSmall }

/-- 'almerylaw09.IdentJoins', WHERE WHAT IT READS IS OF BULK AT MOST 1048576: true; the input reads as it did. -/
def identJoinsUptoRow : OpenClaim := { program := "ytejppboaiihhaaa", sum := "65533f9bbe40bc25fcebfcc3ced9605610ac56d51bc1a017f12d5fdd5205e7fb", func := "almery/almerylaw09.IdentJoins", spec := "identJoins", apart := false, narrowed := true }
def IdentJoinsUptoSaid : Prop := identJoinsUptoRow.holds Try.pinned (OpenSpec.upto identJoinsSpec)

/-- 'almerylaw09.IdentSplits', WHERE WHAT IT READS IS OF BULK AT MOST 1048576: true; the input reads as it did. -/
def identSplitsUptoRow : OpenClaim := { program := "ytejppboaiihhaaa", sum := "65533f9bbe40bc25fcebfcc3ced9605610ac56d51bc1a017f12d5fdd5205e7fb", func := "almery/almerylaw09.IdentSplits", spec := "identSplits", apart := false, narrowed := true }
def IdentSplitsUptoSaid : Prop := identSplitsUptoRow.holds Try.pinned (OpenSpec.upto identSplitsSpec)

/-- 'almerylaw09.IdentBack', WHERE WHAT IT READS IS OF BULK AT MOST 1048576: true; the input reads as it did. -/
def identBackUptoRow : OpenClaim := { program := "ytejppboaiihhaaa", sum := "65533f9bbe40bc25fcebfcc3ced9605610ac56d51bc1a017f12d5fdd5205e7fb", func := "almery/almerylaw09.IdentBack", spec := "identBack", apart := false, narrowed := true }
def IdentBackUptoSaid : Prop := identBackUptoRow.holds Try.pinned (OpenSpec.upto identBackSpec)

/-- 'almerylaw09.IdentOne', WHERE WHAT IT READS IS OF BULK AT MOST 1048576: true; the input reads as it did. -/
def identOneUptoRow : OpenClaim := { program := "ytejppboaiihhaaa", sum := "65533f9bbe40bc25fcebfcc3ced9605610ac56d51bc1a017f12d5fdd5205e7fb", func := "almery/almerylaw09.IdentOne", spec := "identOne", apart := false, narrowed := true }
def IdentOneUptoSaid : Prop := identOneUptoRow.holds Try.pinned (OpenSpec.upto identOneSpec)

/-- 'almerylaw09.IdentApart', WHERE WHAT IT READS IS OF BULK AT MOST 1048576: true; the input reads as it did. -/
def identApartUptoRow : OpenClaim := { program := "ytejppboaiihhaaa", sum := "65533f9bbe40bc25fcebfcc3ced9605610ac56d51bc1a017f12d5fdd5205e7fb", func := "almery/almerylaw09.IdentApart", spec := "identApart", apart := false, narrowed := true }
def IdentApartUptoSaid : Prop := identApartUptoRow.holds Try.pinned (OpenSpec.upto identApartSpec)

end Rows
end Go.Proofs.Ytejppboaiihhaaa
