/-
  No cell of these rows narrows 'for every input' (looked for: loops, veiled, ifaces, maps, wideKeys, modest, calm, conditions, laid).
  DERIVED. THE GIVEN ROWS OF THIS SEAT. 5 by the template 'for every input the law returns true; each argument reads behind the call as it read before'; 0 by the template 'total and deterministic' (their statements: YthhpkinedbdlhaaTotals.lean).
  GIVEN WITH THE SEED: the statements are not yours to turn. If you find one false, say at which input.
  Laid BY PROGRAM, IN A SANDBOX (cutbox-rows.mjs): the forced cells as the released guide's own fill.sh prints them over the translation 59a2eb8ec0b07177… (all of the seat's roots in one cut). By AI agents, Wed Nov 11 2026. No macro, syntax, notation, axiom, sorry.
-/
import Derived.Test.YthhpkinedbdlhaaChecked
import GoSem.Claim
import GoSem.ClaimJoined
import GoSem.ClaimMapViews
import Derived.JoinedTies
import Derived.KernelRfl
namespace Go.Proofs.Ythhpkinedbdlhaa
/- THE CELL 'sum', in the pinned program and in every row, IS THE sha256 OF THE DUMP (.gsa) THAT YthhpkinedbdlhaaProg.lean LOADS. Nothing in Lean hashes anything: it is a label: what it is worth is what the hold of that sum in a sandbox is worth. -/
noncomputable def Try.pinned : Pinned := { name := "ythhpkinedbdlhaa", sum := "59a2eb8ec0b07177b04499dce1c435ec7c0e0f59d75ec1fb375d0a59116eaf93", checked := Try.checked }
namespace Rows
def none {H : Type} : Left H := { results := [], args := [] }

/-- 'almerylaw17.NeedPages': WHATEVER THE INPUT: true; the input reads as it did. -/
def needPagesSpec : ChangeSpec := { name := "needPages", fn := fun _ => fun
  | [d1, d2] => { results := [.lit (.bool true)], args := [d1, d2] }
  | _ => none }
def needPagesRow : OpenClaim := { program := "ythhpkinedbdlhaa", sum := "59a2eb8ec0b07177b04499dce1c435ec7c0e0f59d75ec1fb375d0a59116eaf93", func := "almery/almerylaw17.NeedPages", spec := "needPages", unfollowed := true, recurses := true, apart := false }
def NeedPagesSaid : Prop := needPagesRow.holds Try.pinned (OpenSpec.ofChange needPagesSpec)

/-- ITS FALSE NEIGHBOUR: 'it returns false'. Refute it at one input. -/
def needPagesWrong : ChangeSpec := { name := "needPages", fn := fun _ => fun
  | [d1, d2] => { results := [.lit (.bool false)], args := [d1, d2] }
  | _ => none }
def NeedPagesWrongFalsely : Prop := needPagesRow.holds Try.pinned (OpenSpec.ofChange needPagesWrong)

/-- 'almerylaw17.NeedMost': WHATEVER THE INPUT: true; the input reads as it did. -/
def needMostSpec : ChangeSpec := { name := "needMost", fn := fun _ => fun
  | [d1, d2, d3] => { results := [.lit (.bool true)], args := [d1, d2, d3] }
  | _ => none }
def needMostRow : OpenClaim := { program := "ythhpkinedbdlhaa", sum := "59a2eb8ec0b07177b04499dce1c435ec7c0e0f59d75ec1fb375d0a59116eaf93", func := "almery/almerylaw17.NeedMost", spec := "needMost", unfollowed := true, recurses := true, apart := false }
def NeedMostSaid : Prop := needMostRow.holds Try.pinned (OpenSpec.ofChange needMostSpec)

/-- ITS FALSE NEIGHBOUR: 'it returns false'. Refute it at one input. -/
def needMostWrong : ChangeSpec := { name := "needMost", fn := fun _ => fun
  | [d1, d2, d3] => { results := [.lit (.bool false)], args := [d1, d2, d3] }
  | _ => none }
def NeedMostWrongFalsely : Prop := needMostRow.holds Try.pinned (OpenSpec.ofChange needMostWrong)

/-- 'almerylaw17.NeedMore': WHATEVER THE INPUT: true; the input reads as it did. -/
def needMoreSpec : ChangeSpec := { name := "needMore", fn := fun _ => fun
  | [d1, d2, d3] => { results := [.lit (.bool true)], args := [d1, d2, d3] }
  | _ => none }
def needMoreRow : OpenClaim := { program := "ythhpkinedbdlhaa", sum := "59a2eb8ec0b07177b04499dce1c435ec7c0e0f59d75ec1fb375d0a59116eaf93", func := "almery/almerylaw17.NeedMore", spec := "needMore", unfollowed := true, recurses := true, apart := false }
def NeedMoreSaid : Prop := needMoreRow.holds Try.pinned (OpenSpec.ofChange needMoreSpec)

/-- ITS FALSE NEIGHBOUR: 'it returns false'. Refute it at one input. -/
def needMoreWrong : ChangeSpec := { name := "needMore", fn := fun _ => fun
  | [d1, d2, d3] => { results := [.lit (.bool false)], args := [d1, d2, d3] }
  | _ => none }
def NeedMoreWrongFalsely : Prop := needMoreRow.holds Try.pinned (OpenSpec.ofChange needMoreWrong)

/-- 'almerylaw17.NeedTurn': WHATEVER THE INPUT: true; the input reads as it did. -/
def needTurnSpec : ChangeSpec := { name := "needTurn", fn := fun _ => fun
  | [d1, d2, d3] => { results := [.lit (.bool true)], args := [d1, d2, d3] }
  | _ => none }
def needTurnRow : OpenClaim := { program := "ythhpkinedbdlhaa", sum := "59a2eb8ec0b07177b04499dce1c435ec7c0e0f59d75ec1fb375d0a59116eaf93", func := "almery/almerylaw17.NeedTurn", spec := "needTurn", unfollowed := true, recurses := true, apart := false }
def NeedTurnSaid : Prop := needTurnRow.holds Try.pinned (OpenSpec.ofChange needTurnSpec)

/-- ITS FALSE NEIGHBOUR: 'it returns false'. Refute it at one input. -/
def needTurnWrong : ChangeSpec := { name := "needTurn", fn := fun _ => fun
  | [d1, d2, d3] => { results := [.lit (.bool false)], args := [d1, d2, d3] }
  | _ => none }
def NeedTurnWrongFalsely : Prop := needTurnRow.holds Try.pinned (OpenSpec.ofChange needTurnWrong)

/-- 'almerylaw17.NeedBlocks': WHATEVER THE INPUT: true; the input reads as it did. -/
def needBlocksSpec : ChangeSpec := { name := "needBlocks", fn := fun _ => fun
  | [d1, d2] => { results := [.lit (.bool true)], args := [d1, d2] }
  | _ => none }
def needBlocksRow : OpenClaim := { program := "ythhpkinedbdlhaa", sum := "59a2eb8ec0b07177b04499dce1c435ec7c0e0f59d75ec1fb375d0a59116eaf93", func := "almery/almerylaw17.NeedBlocks", spec := "needBlocks", unfollowed := true, recurses := true, apart := false }
def NeedBlocksSaid : Prop := needBlocksRow.holds Try.pinned (OpenSpec.ofChange needBlocksSpec)

/-- ITS FALSE NEIGHBOUR: 'it returns false'. Refute it at one input. -/
def needBlocksWrong : ChangeSpec := { name := "needBlocks", fn := fun _ => fun
  | [d1, d2] => { results := [.lit (.bool false)], args := [d1, d2] }
  | _ => none }
def NeedBlocksWrongFalsely : Prop := needBlocksRow.holds Try.pinned (OpenSpec.ofChange needBlocksWrong)

/- THE SECOND FORM. 'bulk': how many values and letters a reading holds, each counted each time it is reached (what is shared counts as often as it is met; a slice's spare places count too). A statement '..UptoSaid' is the law's where the arguments, and the package variables that the reading takes, are together of bulk at most 1048576: NARROWER than '..Said'. Prove '..Said' where nothing that the law and all that it calls make is longer than what came in: it says more and counts as full. Else prove '..UptoSaid'. A law counts once. -/
mutual
def uptoBulk {H : Type} : DataW H → Nat
  | .lit (.string bytes) => bytes.length + 1
  | .lit _ => 1
  | .nil => 1
  | .ptr d => uptoBulk d + 1
  | .slice elems spare => uptoBulkAll elems + uptoBulkAll spare + 1
  | .agg parts => uptoBulkAll parts + 1
  | .iface _ d => uptoBulk d + 1
  | .map entries => uptoBulkEntries entries + 1
  | .held _ => 1
def uptoBulkAll {H : Type} : List (DataW H) → Nat
  | [] => 0
  | d :: r => uptoBulk d + uptoBulkAll r
def uptoBulkEntries {H : Type} : List (Lit × DataW H) → Nat
  | [] => 0
  | x :: r => uptoBulkEntry x + uptoBulkEntries r
def uptoBulkEntry {H : Type} : Lit × DataW H → Nat
  | (.string bytes, d) => bytes.length + uptoBulk d + 1
  | (_, d) => uptoBulk d + 1
 end
def uptoSmall : (H : Type) → List (DataW H) → Bool := fun _ ds => decide (uptoBulkAll ds ≤ 1048576)
def OpenSpec.upto (s : _root_.Go.ChangeSpec) : _root_.Go.OpenSpec := { _root_.Go.OpenSpec.ofChange s with cond := some uptoSmall }

/-- 'almerylaw17.NeedPages', WHERE WHAT IT READS IS OF BULK AT MOST 1048576: true; the input reads as it did. -/
def needPagesUptoRow : OpenClaim := { program := "ythhpkinedbdlhaa", sum := "59a2eb8ec0b07177b04499dce1c435ec7c0e0f59d75ec1fb375d0a59116eaf93", func := "almery/almerylaw17.NeedPages", spec := "needPages", unfollowed := true, recurses := true, apart := false, narrowed := true }
def NeedPagesUptoSaid : Prop := needPagesUptoRow.holds Try.pinned (OpenSpec.upto needPagesSpec)

/-- 'almerylaw17.NeedMost', WHERE WHAT IT READS IS OF BULK AT MOST 1048576: true; the input reads as it did. -/
def needMostUptoRow : OpenClaim := { program := "ythhpkinedbdlhaa", sum := "59a2eb8ec0b07177b04499dce1c435ec7c0e0f59d75ec1fb375d0a59116eaf93", func := "almery/almerylaw17.NeedMost", spec := "needMost", unfollowed := true, recurses := true, apart := false, narrowed := true }
def NeedMostUptoSaid : Prop := needMostUptoRow.holds Try.pinned (OpenSpec.upto needMostSpec)

/-- 'almerylaw17.NeedMore', WHERE WHAT IT READS IS OF BULK AT MOST 1048576: true; the input reads as it did. -/
def needMoreUptoRow : OpenClaim := { program := "ythhpkinedbdlhaa", sum := "59a2eb8ec0b07177b04499dce1c435ec7c0e0f59d75ec1fb375d0a59116eaf93", func := "almery/almerylaw17.NeedMore", spec := "needMore", unfollowed := true, recurses := true, apart := false, narrowed := true }
def NeedMoreUptoSaid : Prop := needMoreUptoRow.holds Try.pinned (OpenSpec.upto needMoreSpec)

/-- 'almerylaw17.NeedTurn', WHERE WHAT IT READS IS OF BULK AT MOST 1048576: true; the input reads as it did. -/
def needTurnUptoRow : OpenClaim := { program := "ythhpkinedbdlhaa", sum := "59a2eb8ec0b07177b04499dce1c435ec7c0e0f59d75ec1fb375d0a59116eaf93", func := "almery/almerylaw17.NeedTurn", spec := "needTurn", unfollowed := true, recurses := true, apart := false, narrowed := true }
def NeedTurnUptoSaid : Prop := needTurnUptoRow.holds Try.pinned (OpenSpec.upto needTurnSpec)

/-- 'almerylaw17.NeedBlocks', WHERE WHAT IT READS IS OF BULK AT MOST 1048576: true; the input reads as it did. -/
def needBlocksUptoRow : OpenClaim := { program := "ythhpkinedbdlhaa", sum := "59a2eb8ec0b07177b04499dce1c435ec7c0e0f59d75ec1fb375d0a59116eaf93", func := "almery/almerylaw17.NeedBlocks", spec := "needBlocks", unfollowed := true, recurses := true, apart := false, narrowed := true }
def NeedBlocksUptoSaid : Prop := needBlocksUptoRow.holds Try.pinned (OpenSpec.upto needBlocksSpec)

end Rows
end Go.Proofs.Ythhpkinedbdlhaa
