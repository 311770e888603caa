/-
  No cell of these rows narrows 'for every input' (looked for: loops, veiled, ifaces, maps, wideKeys, modest, calm, conditions, laid).
  DERIVED. THE GIVEN ROWS OF THIS SEAT. 5 by the template 'for every input the law returns true; each argument reads behind the call as it read before'; 0 by the template 'total and deterministic' (their statements: YtonanghhepadkaaTotals.lean).
  GIVEN WITH THE SEED: the statements are not yours to turn. If you find one false, say at which input.
  Laid BY PROGRAM, IN A SANDBOX (cutbox-rows.mjs): the forced cells as the released guide's own fill.sh prints them over the translation 30a8f119ca061cac… (all of the seat's roots in one cut). By AI agents, Wed Nov 11 2026. No macro, syntax, notation, axiom, sorry.
-/
import Derived.Test.YtonanghhepadkaaChecked
import GoSem.Claim
import GoSem.ClaimJoined
import GoSem.ClaimMapViews
import Derived.JoinedTies
import Derived.KernelRfl
namespace Go.Proofs.Ytonanghhepadkaa
/- THE CELL 'sum', in the pinned program and in every row, IS THE sha256 OF THE DUMP (.gsa) THAT YtonanghhepadkaaProg.lean LOADS. Nothing in Lean hashes anything: it is a label: what it is worth is what the hold of that sum in a sandbox is worth. -/
noncomputable def Try.pinned : Pinned := { name := "ytonanghhepadkaa", sum := "30a8f119ca061cac0cf5112ed6fb9bcaae4d1443c9015d243e6a90211e99fdfd", checked := Try.checked }
namespace Rows
def none {H : Type} : Left H := { results := [], args := [] }

/-- 'almerylaw01.UnitTells': WHATEVER THE INPUT: true; the input reads as it did. -/
def unitTellsSpec : ChangeSpec := { name := "unitTells", fn := fun _ => fun
  | [d1, d2] => { results := [.lit (.bool true)], args := [d1, d2] }
  | _ => none }
def unitTellsRow : OpenClaim := { program := "ytonanghhepadkaa", sum := "30a8f119ca061cac0cf5112ed6fb9bcaae4d1443c9015d243e6a90211e99fdfd", func := "almery/almerylaw01.UnitTells", spec := "unitTells", unfollowed := true, recurses := true, apart := false }
def UnitTellsSaid : Prop := unitTellsRow.holds Try.pinned (OpenSpec.ofChange unitTellsSpec)

/-- ITS FALSE NEIGHBOUR: 'it returns false'. Refute it at one input. -/
def unitTellsWrong : ChangeSpec := { name := "unitTells", fn := fun _ => fun
  | [d1, d2] => { results := [.lit (.bool false)], args := [d1, d2] }
  | _ => none }
def UnitTellsWrongFalsely : Prop := unitTellsRow.holds Try.pinned (OpenSpec.ofChange unitTellsWrong)

/-- 'almerylaw01.UnitUp': WHATEVER THE INPUT: true; the input reads as it did. -/
def unitUpSpec : ChangeSpec := { name := "unitUp", fn := fun _ => fun
  | [d1, d2] => { results := [.lit (.bool true)], args := [d1, d2] }
  | _ => none }
def unitUpRow : OpenClaim := { program := "ytonanghhepadkaa", sum := "30a8f119ca061cac0cf5112ed6fb9bcaae4d1443c9015d243e6a90211e99fdfd", func := "almery/almerylaw01.UnitUp", spec := "unitUp", unfollowed := true, recurses := true, apart := false }
def UnitUpSaid : Prop := unitUpRow.holds Try.pinned (OpenSpec.ofChange unitUpSpec)

/-- ITS FALSE NEIGHBOUR: 'it returns false'. Refute it at one input. -/
def unitUpWrong : ChangeSpec := { name := "unitUp", fn := fun _ => fun
  | [d1, d2] => { results := [.lit (.bool false)], args := [d1, d2] }
  | _ => none }
def UnitUpWrongFalsely : Prop := unitUpRow.holds Try.pinned (OpenSpec.ofChange unitUpWrong)

/-- 'almerylaw01.UnitHolds': WHATEVER THE INPUT: true; the input reads as it did. -/
def unitHoldsSpec : ChangeSpec := { name := "unitHolds", fn := fun _ => fun
  | [d1, d2] => { results := [.lit (.bool true)], args := [d1, d2] }
  | _ => none }
def unitHoldsRow : OpenClaim := { program := "ytonanghhepadkaa", sum := "30a8f119ca061cac0cf5112ed6fb9bcaae4d1443c9015d243e6a90211e99fdfd", func := "almery/almerylaw01.UnitHolds", spec := "unitHolds", unfollowed := true, recurses := true, apart := false }
def UnitHoldsSaid : Prop := unitHoldsRow.holds Try.pinned (OpenSpec.ofChange unitHoldsSpec)

/-- ITS FALSE NEIGHBOUR: 'it returns false'. Refute it at one input. -/
def unitHoldsWrong : ChangeSpec := { name := "unitHolds", fn := fun _ => fun
  | [d1, d2] => { results := [.lit (.bool false)], args := [d1, d2] }
  | _ => none }
def UnitHoldsWrongFalsely : Prop := unitHoldsRow.holds Try.pinned (OpenSpec.ofChange unitHoldsWrong)

/-- 'almerylaw01.UnitWhole': WHATEVER THE INPUT: true; the input reads as it did. -/
def unitWholeSpec : ChangeSpec := { name := "unitWhole", fn := fun _ => fun
  | [d1, d2] => { results := [.lit (.bool true)], args := [d1, d2] }
  | _ => none }
def unitWholeRow : OpenClaim := { program := "ytonanghhepadkaa", sum := "30a8f119ca061cac0cf5112ed6fb9bcaae4d1443c9015d243e6a90211e99fdfd", func := "almery/almerylaw01.UnitWhole", spec := "unitWhole", unfollowed := true, recurses := true, apart := false }
def UnitWholeSaid : Prop := unitWholeRow.holds Try.pinned (OpenSpec.ofChange unitWholeSpec)

/-- ITS FALSE NEIGHBOUR: 'it returns false'. Refute it at one input. -/
def unitWholeWrong : ChangeSpec := { name := "unitWhole", fn := fun _ => fun
  | [d1, d2] => { results := [.lit (.bool false)], args := [d1, d2] }
  | _ => none }
def UnitWholeWrongFalsely : Prop := unitWholeRow.holds Try.pinned (OpenSpec.ofChange unitWholeWrong)

/-- 'almerylaw01.UnitJoins': WHATEVER THE INPUT: true; the input reads as it did. -/
def unitJoinsSpec : ChangeSpec := { name := "unitJoins", fn := fun _ => fun
  | [d1, d2, d3] => { results := [.lit (.bool true)], args := [d1, d2, d3] }
  | _ => none }
def unitJoinsRow : OpenClaim := { program := "ytonanghhepadkaa", sum := "30a8f119ca061cac0cf5112ed6fb9bcaae4d1443c9015d243e6a90211e99fdfd", func := "almery/almerylaw01.UnitJoins", spec := "unitJoins", unfollowed := true, recurses := true, apart := false }
def UnitJoinsSaid : Prop := unitJoinsRow.holds Try.pinned (OpenSpec.ofChange unitJoinsSpec)

/-- ITS FALSE NEIGHBOUR: 'it returns false'. Refute it at one input. -/
def unitJoinsWrong : ChangeSpec := { name := "unitJoins", fn := fun _ => fun
  | [d1, d2, d3] => { results := [.lit (.bool false)], args := [d1, d2, d3] }
  | _ => none }
def UnitJoinsWrongFalsely : Prop := unitJoinsRow.holds Try.pinned (OpenSpec.ofChange unitJoinsWrong)

/- THE SECOND FORM. 'bulk': how many values and letters a reading holds, each counted each time it is reached (what is shared counts as often as it is met; a slice's spare places count too). A statement '..UptoSaid' is the law's where the arguments, and the package variables that the reading takes, are together of bulk at most 1048576: NARROWER than '..Said'. Prove '..Said' where nothing that the law and all that it calls make is longer than what came in: it says more and counts as full. Else prove '..UptoSaid'. A law counts once. -/
mutual
def uptoBulk {H : Type} : DataW H → Nat
  | .lit (.string bytes) => bytes.length + 1
  | .lit _ => 1
  | .nil => 1
  | .ptr d => uptoBulk d + 1
  | .slice elems spare => uptoBulkAll elems + uptoBulkAll spare + 1
  | .agg parts => uptoBulkAll parts + 1
  | .iface _ d => uptoBulk d + 1
  | .map entries => uptoBulkEntries entries + 1
  | .held _ => 1
def uptoBulkAll {H : Type} : List (DataW H) → Nat
  | [] => 0
  | d :: r => uptoBulk d + uptoBulkAll r
def uptoBulkEntries {H : Type} : List (Lit × DataW H) → Nat
  | [] => 0
  | x :: r => uptoBulkEntry x + uptoBulkEntries r
def uptoBulkEntry {H : Type} : Lit × DataW H → Nat
  | (.string bytes, d) => bytes.length + uptoBulk d + 1
  | (_, d) => uptoBulk d + 1
 end
def uptoSmall : (H : Type) → List (DataW H) → Bool := fun _ ds => decide (uptoBulkAll ds ≤ 1048576)
def OpenSpec.upto (s : _root_.Go.ChangeSpec) : _root_.Go.OpenSpec := { _root_.Go.OpenSpec.ofChange s with cond := some uptoSmall }

/-- 'almerylaw01.UnitTells', WHERE WHAT IT READS IS OF BULK AT MOST 1048576: true; the input reads as it did. -/
def unitTellsUptoRow : OpenClaim := { program := "ytonanghhepadkaa", sum := "30a8f119ca061cac0cf5112ed6fb9bcaae4d1443c9015d243e6a90211e99fdfd", func := "almery/almerylaw01.UnitTells", spec := "unitTells", unfollowed := true, recurses := true, apart := false, narrowed := true }
def UnitTellsUptoSaid : Prop := unitTellsUptoRow.holds Try.pinned (OpenSpec.upto unitTellsSpec)

/-- 'almerylaw01.UnitUp', WHERE WHAT IT READS IS OF BULK AT MOST 1048576: true; the input reads as it did. -/
def unitUpUptoRow : OpenClaim := { program := "ytonanghhepadkaa", sum := "30a8f119ca061cac0cf5112ed6fb9bcaae4d1443c9015d243e6a90211e99fdfd", func := "almery/almerylaw01.UnitUp", spec := "unitUp", unfollowed := true, recurses := true, apart := false, narrowed := true }
def UnitUpUptoSaid : Prop := unitUpUptoRow.holds Try.pinned (OpenSpec.upto unitUpSpec)

/-- 'almerylaw01.UnitHolds', WHERE WHAT IT READS IS OF BULK AT MOST 1048576: true; the input reads as it did. -/
def unitHoldsUptoRow : OpenClaim := { program := "ytonanghhepadkaa", sum := "30a8f119ca061cac0cf5112ed6fb9bcaae4d1443c9015d243e6a90211e99fdfd", func := "almery/almerylaw01.UnitHolds", spec := "unitHolds", unfollowed := true, recurses := true, apart := false, narrowed := true }
def UnitHoldsUptoSaid : Prop := unitHoldsUptoRow.holds Try.pinned (OpenSpec.upto unitHoldsSpec)

/-- 'almerylaw01.UnitWhole', WHERE WHAT IT READS IS OF BULK AT MOST 1048576: true; the input reads as it did. -/
def unitWholeUptoRow : OpenClaim := { program := "ytonanghhepadkaa", sum := "30a8f119ca061cac0cf5112ed6fb9bcaae4d1443c9015d243e6a90211e99fdfd", func := "almery/almerylaw01.UnitWhole", spec := "unitWhole", unfollowed := true, recurses := true, apart := false, narrowed := true }
def UnitWholeUptoSaid : Prop := unitWholeUptoRow.holds Try.pinned (OpenSpec.upto unitWholeSpec)

/-- 'almerylaw01.UnitJoins', WHERE WHAT IT READS IS OF BULK AT MOST 1048576: true; the input reads as it did. -/
def unitJoinsUptoRow : OpenClaim := { program := "ytonanghhepadkaa", sum := "30a8f119ca061cac0cf5112ed6fb9bcaae4d1443c9015d243e6a90211e99fdfd", func := "almery/almerylaw01.UnitJoins", spec := "unitJoins", unfollowed := true, recurses := true, apart := false, narrowed := true }
def UnitJoinsUptoSaid : Prop := unitJoinsUptoRow.holds Try.pinned (OpenSpec.upto unitJoinsSpec)

end Rows
end Go.Proofs.Ytonanghhepadkaa
