/-
  No cell of these rows narrows 'for every input' (looked for: loops, veiled, ifaces, maps, wideKeys, modest, calm, conditions, laid).
  DERIVED. THE GIVEN ROWS OF THIS SEAT. 5 by the template 'for every input the law returns true; each argument reads behind the call as it read before'; 0 by the template 'total and deterministic' (their statements: YtejmggfofcfndaaTotals.lean).
  GIVEN WITH THE SEED: the statements are not yours to turn. If you find one false, say at which input.
  Laid BY PROGRAM, IN A SANDBOX (cutbox-rows.mjs): the forced cells as the released guide's own fill.sh prints them over the translation e466be40e47a3e7a… (all of the seat's roots in one cut). By AI agents, Wed Nov 11 2026. No macro, syntax, notation, axiom, sorry.
-/
import Derived.Test.YtejmggfofcfndaaChecked
import GoSem.Claim
import GoSem.ClaimJoined
import GoSem.ClaimMapViews
import Derived.JoinedTies
import Derived.KernelRfl
namespace Go.Proofs.Ytejmggfofcfndaa
/- THE CELL 'sum', in the pinned program and in every row, IS THE sha256 OF THE DUMP (.gsa) THAT YtejmggfofcfndaaProg.lean LOADS. Nothing in Lean hashes anything: it is a label: what it is worth is what the hold of that sum in a sandbox is worth. -/
noncomputable def Try.pinned : Pinned := { name := "ytejmggfofcfndaa", sum := "e466be40e47a3e7a5795796002dda6fa35e8aa7a1927dc1959c40c35765b4987", checked := Try.checked }
namespace Rows
def none {H : Type} : Left H := { results := [], args := [] }

/-- 'almerylaw14.PlanMay': WHATEVER THE INPUT: true; the input reads as it did. -/
def planMaySpec : ChangeSpec := { name := "planMay", fn := fun _ => fun
  | [d1, d2, d3] => { results := [.lit (.bool true)], args := [d1, d2, d3] }
  | _ => none }
def planMayRow : OpenClaim := { program := "ytejmggfofcfndaa", sum := "e466be40e47a3e7a5795796002dda6fa35e8aa7a1927dc1959c40c35765b4987", func := "almery/almerylaw14.PlanMay", spec := "planMay", unfollowed := true, recurses := true, apart := false }
def PlanMaySaid : Prop := planMayRow.holds Try.pinned (OpenSpec.ofChange planMaySpec)

/-- ITS FALSE NEIGHBOUR: 'it returns false'. Refute it at one input. -/
def planMayWrong : ChangeSpec := { name := "planMay", fn := fun _ => fun
  | [d1, d2, d3] => { results := [.lit (.bool false)], args := [d1, d2, d3] }
  | _ => none }
def PlanMayWrongFalsely : Prop := planMayRow.holds Try.pinned (OpenSpec.ofChange planMayWrong)

/-- 'almerylaw14.PlanNext': WHATEVER THE INPUT: true; the input reads as it did. -/
def planNextSpec : ChangeSpec := { name := "planNext", fn := fun _ => fun
  | [d1, d2, d3] => { results := [.lit (.bool true)], args := [d1, d2, d3] }
  | _ => none }
def planNextRow : OpenClaim := { program := "ytejmggfofcfndaa", sum := "e466be40e47a3e7a5795796002dda6fa35e8aa7a1927dc1959c40c35765b4987", func := "almery/almerylaw14.PlanNext", spec := "planNext", unfollowed := true, recurses := true, apart := false }
def PlanNextSaid : Prop := planNextRow.holds Try.pinned (OpenSpec.ofChange planNextSpec)

/-- ITS FALSE NEIGHBOUR: 'it returns false'. Refute it at one input. -/
def planNextWrong : ChangeSpec := { name := "planNext", fn := fun _ => fun
  | [d1, d2, d3] => { results := [.lit (.bool false)], args := [d1, d2, d3] }
  | _ => none }
def PlanNextWrongFalsely : Prop := planNextRow.holds Try.pinned (OpenSpec.ofChange planNextWrong)

/-- 'almerylaw14.PlanKeeps': WHATEVER THE INPUT: true; the input reads as it did. -/
def planKeepsSpec : ChangeSpec := { name := "planKeeps", fn := fun _ => fun
  | [d1, d2] => { results := [.lit (.bool true)], args := [d1, d2] }
  | _ => none }
def planKeepsRow : OpenClaim := { program := "ytejmggfofcfndaa", sum := "e466be40e47a3e7a5795796002dda6fa35e8aa7a1927dc1959c40c35765b4987", func := "almery/almerylaw14.PlanKeeps", spec := "planKeeps", unfollowed := true, recurses := true, apart := false }
def PlanKeepsSaid : Prop := planKeepsRow.holds Try.pinned (OpenSpec.ofChange planKeepsSpec)

/-- ITS FALSE NEIGHBOUR: 'it returns false'. Refute it at one input. -/
def planKeepsWrong : ChangeSpec := { name := "planKeeps", fn := fun _ => fun
  | [d1, d2] => { results := [.lit (.bool false)], args := [d1, d2] }
  | _ => none }
def PlanKeepsWrongFalsely : Prop := planKeepsRow.holds Try.pinned (OpenSpec.ofChange planKeepsWrong)

/-- 'almerylaw14.PlanBound': WHATEVER THE INPUT: true; the input reads as it did. -/
def planBoundSpec : ChangeSpec := { name := "planBound", fn := fun _ => fun
  | [d1, d2, d3] => { results := [.lit (.bool true)], args := [d1, d2, d3] }
  | _ => none }
def planBoundRow : OpenClaim := { program := "ytejmggfofcfndaa", sum := "e466be40e47a3e7a5795796002dda6fa35e8aa7a1927dc1959c40c35765b4987", func := "almery/almerylaw14.PlanBound", spec := "planBound", unfollowed := true, recurses := true, apart := false }
def PlanBoundSaid : Prop := planBoundRow.holds Try.pinned (OpenSpec.ofChange planBoundSpec)

/-- ITS FALSE NEIGHBOUR: 'it returns false'. Refute it at one input. -/
def planBoundWrong : ChangeSpec := { name := "planBound", fn := fun _ => fun
  | [d1, d2, d3] => { results := [.lit (.bool false)], args := [d1, d2, d3] }
  | _ => none }
def PlanBoundWrongFalsely : Prop := planBoundRow.holds Try.pinned (OpenSpec.ofChange planBoundWrong)

/-- 'almerylaw14.PlanLess': WHATEVER THE INPUT: true; the input reads as it did. -/
def planLessSpec : ChangeSpec := { name := "planLess", fn := fun _ => fun
  | [d1, d2, d3] => { results := [.lit (.bool true)], args := [d1, d2, d3] }
  | _ => none }
def planLessRow : OpenClaim := { program := "ytejmggfofcfndaa", sum := "e466be40e47a3e7a5795796002dda6fa35e8aa7a1927dc1959c40c35765b4987", func := "almery/almerylaw14.PlanLess", spec := "planLess", unfollowed := true, recurses := true, apart := false }
def PlanLessSaid : Prop := planLessRow.holds Try.pinned (OpenSpec.ofChange planLessSpec)

/-- ITS FALSE NEIGHBOUR: 'it returns false'. Refute it at one input. -/
def planLessWrong : ChangeSpec := { name := "planLess", fn := fun _ => fun
  | [d1, d2, d3] => { results := [.lit (.bool false)], args := [d1, d2, d3] }
  | _ => none }
def PlanLessWrongFalsely : Prop := planLessRow.holds Try.pinned (OpenSpec.ofChange planLessWrong)

/- THE SECOND FORM. 'bulk': how many values and letters a reading holds, each counted each time it is reached (what is shared counts as often as it is met; a slice's spare places count too). A statement '..UptoSaid' is the law's where the arguments, and the package variables that the reading takes, are together of bulk at most 1048576: NARROWER than '..Said'. Prove '..Said' where nothing that the law and all that it calls make is longer than what came in: it says more and counts as full. Else prove '..UptoSaid'. A law counts once. -/
mutual
def uptoBulk {H : Type} : DataW H → Nat
  | .lit (.string bytes) => bytes.length + 1
  | .lit _ => 1
  | .nil => 1
  | .ptr d => uptoBulk d + 1
  | .slice elems spare => uptoBulkAll elems + uptoBulkAll spare + 1
  | .agg parts => uptoBulkAll parts + 1
  | .iface _ d => uptoBulk d + 1
  | .map entries => uptoBulkEntries entries + 1
  | .held _ => 1
def uptoBulkAll {H : Type} : List (DataW H) → Nat
  | [] => 0
  | d :: r => uptoBulk d + uptoBulkAll r
def uptoBulkEntries {H : Type} : List (Lit × DataW H) → Nat
  | [] => 0
  | x :: r => uptoBulkEntry x + uptoBulkEntries r
def uptoBulkEntry {H : Type} : Lit × DataW H → Nat
  | (.string bytes, d) => bytes.length + uptoBulk d + 1
  | (_, d) => uptoBulk d + 1
 end
def uptoSmall : (H : Type) → List (DataW H) → Bool := fun _ ds => decide (uptoBulkAll ds ≤ 1048576)
def OpenSpec.upto (s : _root_.Go.ChangeSpec) : _root_.Go.OpenSpec := { _root_.Go.OpenSpec.ofChange s with cond := some uptoSmall }

/-- 'almerylaw14.PlanMay', WHERE WHAT IT READS IS OF BULK AT MOST 1048576: true; the input reads as it did. -/
def planMayUptoRow : OpenClaim := { program := "ytejmggfofcfndaa", sum := "e466be40e47a3e7a5795796002dda6fa35e8aa7a1927dc1959c40c35765b4987", func := "almery/almerylaw14.PlanMay", spec := "planMay", unfollowed := true, recurses := true, apart := false, narrowed := true }
def PlanMayUptoSaid : Prop := planMayUptoRow.holds Try.pinned (OpenSpec.upto planMaySpec)

/-- 'almerylaw14.PlanNext', WHERE WHAT IT READS IS OF BULK AT MOST 1048576: true; the input reads as it did. -/
def planNextUptoRow : OpenClaim := { program := "ytejmggfofcfndaa", sum := "e466be40e47a3e7a5795796002dda6fa35e8aa7a1927dc1959c40c35765b4987", func := "almery/almerylaw14.PlanNext", spec := "planNext", unfollowed := true, recurses := true, apart := false, narrowed := true }
def PlanNextUptoSaid : Prop := planNextUptoRow.holds Try.pinned (OpenSpec.upto planNextSpec)

/-- 'almerylaw14.PlanKeeps', WHERE WHAT IT READS IS OF BULK AT MOST 1048576: true; the input reads as it did. -/
def planKeepsUptoRow : OpenClaim := { program := "ytejmggfofcfndaa", sum := "e466be40e47a3e7a5795796002dda6fa35e8aa7a1927dc1959c40c35765b4987", func := "almery/almerylaw14.PlanKeeps", spec := "planKeeps", unfollowed := true, recurses := true, apart := false, narrowed := true }
def PlanKeepsUptoSaid : Prop := planKeepsUptoRow.holds Try.pinned (OpenSpec.upto planKeepsSpec)

/-- 'almerylaw14.PlanBound', WHERE WHAT IT READS IS OF BULK AT MOST 1048576: true; the input reads as it did. -/
def planBoundUptoRow : OpenClaim := { program := "ytejmggfofcfndaa", sum := "e466be40e47a3e7a5795796002dda6fa35e8aa7a1927dc1959c40c35765b4987", func := "almery/almerylaw14.PlanBound", spec := "planBound", unfollowed := true, recurses := true, apart := false, narrowed := true }
def PlanBoundUptoSaid : Prop := planBoundUptoRow.holds Try.pinned (OpenSpec.upto planBoundSpec)

/-- 'almerylaw14.PlanLess', WHERE WHAT IT READS IS OF BULK AT MOST 1048576: true; the input reads as it did. -/
def planLessUptoRow : OpenClaim := { program := "ytejmggfofcfndaa", sum := "e466be40e47a3e7a5795796002dda6fa35e8aa7a1927dc1959c40c35765b4987", func := "almery/almerylaw14.PlanLess", spec := "planLess", unfollowed := true, recurses := true, apart := false, narrowed := true }
def PlanLessUptoSaid : Prop := planLessUptoRow.holds Try.pinned (OpenSpec.upto planLessSpec)

end Rows
end Go.Proofs.Ytejmggfofcfndaa
