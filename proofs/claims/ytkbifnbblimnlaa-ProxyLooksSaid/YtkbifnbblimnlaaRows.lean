/-
  No cell of these rows narrows 'for every input' (looked for: loops, veiled, ifaces, maps, wideKeys, modest, calm, conditions, laid).
  DERIVED. THE GIVEN ROWS OF THIS SEAT. 5 by the template 'for every input the law returns true; each argument reads behind the call as it read before'; 0 by the template 'total and deterministic' (their statements: YtkbifnbblimnlaaTotals.lean).
  GIVEN WITH THE SEED: the statements are not yours to turn. If you find one false, say at which input.
  Laid BY PROGRAM, IN A SANDBOX (cutbox-rows.mjs): the forced cells as the released guide's own fill.sh prints them over the translation 654dbc980a2879b8… (all of the seat's roots in one cut). By AI agents, Wed Nov 11 2026. No macro, syntax, notation, axiom, sorry.
-/
import Derived.Test.YtkbifnbblimnlaaChecked
import GoSem.Claim
import GoSem.ClaimJoined
import GoSem.ClaimMapViews
import Derived.JoinedTies
import Derived.KernelRfl
namespace Go.Proofs.Ytkbifnbblimnlaa
/- THE CELL 'sum', in the pinned program and in every row, IS THE sha256 OF THE DUMP (.gsa) THAT YtkbifnbblimnlaaProg.lean LOADS. Nothing in Lean hashes anything: it is a label: what it is worth is what the hold of that sum in a sandbox is worth. -/
noncomputable def Try.pinned : Pinned := { name := "ytkbifnbblimnlaa", sum := "654dbc980a2879b8177ba9b2a966b5ff81c974cf5b3cd3546a25ebc4714897a1", checked := Try.checked }
namespace Rows
def none {H : Type} : Left H := { results := [], args := [] }

/-- 'almerylaw10.ProxyActs': WHATEVER THE INPUT: true; the input reads as it did. -/
def proxyActsSpec : ChangeSpec := { name := "proxyActs", fn := fun _ => fun
  | [d1, d2] => { results := [.lit (.bool true)], args := [d1, d2] }
  | _ => none }
def proxyActsRow : OpenClaim := { program := "ytkbifnbblimnlaa", sum := "654dbc980a2879b8177ba9b2a966b5ff81c974cf5b3cd3546a25ebc4714897a1", func := "almery/almerylaw10.ProxyActs", spec := "proxyActs", unfollowed := true, recurses := true, apart := false }
def ProxyActsSaid : Prop := proxyActsRow.holds Try.pinned (OpenSpec.ofChange proxyActsSpec)

/-- ITS FALSE NEIGHBOUR: 'it returns false'. Refute it at one input. -/
def proxyActsWrong : ChangeSpec := { name := "proxyActs", fn := fun _ => fun
  | [d1, d2] => { results := [.lit (.bool false)], args := [d1, d2] }
  | _ => none }
def ProxyActsWrongFalsely : Prop := proxyActsRow.holds Try.pinned (OpenSpec.ofChange proxyActsWrong)

/-- 'almerylaw10.ProxyNew': WHATEVER THE INPUT: true; the input reads as it did. -/
def proxyNewSpec : ChangeSpec := { name := "proxyNew", fn := fun _ => fun
  | [d1, d2] => { results := [.lit (.bool true)], args := [d1, d2] }
  | _ => none }
def proxyNewRow : OpenClaim := { program := "ytkbifnbblimnlaa", sum := "654dbc980a2879b8177ba9b2a966b5ff81c974cf5b3cd3546a25ebc4714897a1", func := "almery/almerylaw10.ProxyNew", spec := "proxyNew", unfollowed := true, recurses := true, apart := false }
def ProxyNewSaid : Prop := proxyNewRow.holds Try.pinned (OpenSpec.ofChange proxyNewSpec)

/-- ITS FALSE NEIGHBOUR: 'it returns false'. Refute it at one input. -/
def proxyNewWrong : ChangeSpec := { name := "proxyNew", fn := fun _ => fun
  | [d1, d2] => { results := [.lit (.bool false)], args := [d1, d2] }
  | _ => none }
def ProxyNewWrongFalsely : Prop := proxyNewRow.holds Try.pinned (OpenSpec.ofChange proxyNewWrong)

/-- 'almerylaw10.ProxyLooks': WHATEVER THE INPUT: true; the input reads as it did. -/
def proxyLooksSpec : ChangeSpec := { name := "proxyLooks", fn := fun _ => fun
  | [d1, d2, d3] => { results := [.lit (.bool true)], args := [d1, d2, d3] }
  | _ => none }
def proxyLooksRow : OpenClaim := { program := "ytkbifnbblimnlaa", sum := "654dbc980a2879b8177ba9b2a966b5ff81c974cf5b3cd3546a25ebc4714897a1", func := "almery/almerylaw10.ProxyLooks", spec := "proxyLooks", unfollowed := true, recurses := true, apart := false }
def ProxyLooksSaid : Prop := proxyLooksRow.holds Try.pinned (OpenSpec.ofChange proxyLooksSpec)

/-- ITS FALSE NEIGHBOUR: 'it returns false'. Refute it at one input. -/
def proxyLooksWrong : ChangeSpec := { name := "proxyLooks", fn := fun _ => fun
  | [d1, d2, d3] => { results := [.lit (.bool false)], args := [d1, d2, d3] }
  | _ => none }
def ProxyLooksWrongFalsely : Prop := proxyLooksRow.holds Try.pinned (OpenSpec.ofChange proxyLooksWrong)

/-- 'almerylaw10.ProxyLife': WHATEVER THE INPUT: true; the input reads as it did. -/
def proxyLifeSpec : ChangeSpec := { name := "proxyLife", fn := fun _ => fun
  | [d1, d2, d3] => { results := [.lit (.bool true)], args := [d1, d2, d3] }
  | _ => none }
def proxyLifeRow : OpenClaim := { program := "ytkbifnbblimnlaa", sum := "654dbc980a2879b8177ba9b2a966b5ff81c974cf5b3cd3546a25ebc4714897a1", func := "almery/almerylaw10.ProxyLife", spec := "proxyLife", unfollowed := true, recurses := true, apart := false }
def ProxyLifeSaid : Prop := proxyLifeRow.holds Try.pinned (OpenSpec.ofChange proxyLifeSpec)

/-- ITS FALSE NEIGHBOUR: 'it returns false'. Refute it at one input. -/
def proxyLifeWrong : ChangeSpec := { name := "proxyLife", fn := fun _ => fun
  | [d1, d2, d3] => { results := [.lit (.bool false)], args := [d1, d2, d3] }
  | _ => none }
def ProxyLifeWrongFalsely : Prop := proxyLifeRow.holds Try.pinned (OpenSpec.ofChange proxyLifeWrong)

/-- 'almerylaw10.ProxyNobody': WHATEVER THE INPUT: true; the input reads as it did. -/
def proxyNobodySpec : ChangeSpec := { name := "proxyNobody", fn := fun _ => fun
  | [d] => { results := [.lit (.bool true)], args := [d] }
  | _ => none }
def proxyNobodyRow : OpenClaim := { program := "ytkbifnbblimnlaa", sum := "654dbc980a2879b8177ba9b2a966b5ff81c974cf5b3cd3546a25ebc4714897a1", func := "almery/almerylaw10.ProxyNobody", spec := "proxyNobody", unfollowed := true, recurses := true, apart := false }
def ProxyNobodySaid : Prop := proxyNobodyRow.holds Try.pinned (OpenSpec.ofChange proxyNobodySpec)

/-- ITS FALSE NEIGHBOUR: 'it returns false'. Refute it at one input. -/
def proxyNobodyWrong : ChangeSpec := { name := "proxyNobody", fn := fun _ => fun
  | [d] => { results := [.lit (.bool false)], args := [d] }
  | _ => none }
def ProxyNobodyWrongFalsely : Prop := proxyNobodyRow.holds Try.pinned (OpenSpec.ofChange proxyNobodyWrong)

/- THE SECOND FORM. 'bulk': how many values and letters a reading holds, each counted each time it is reached (what is shared counts as often as it is met; a slice's spare places count too). A statement '..UptoSaid' is the law's where the arguments, and the package variables that the reading takes, are together of bulk at most 1048576: NARROWER than '..Said'. Prove '..Said' where nothing that the law and all that it calls make is longer than what came in: it says more and counts as full. Else prove '..UptoSaid'. A law counts once. -/
mutual
def uptoBulk {H : Type} : DataW H → Nat
  | .lit (.string bytes) => bytes.length + 1
  | .lit _ => 1
  | .nil => 1
  | .ptr d => uptoBulk d + 1
  | .slice elems spare => uptoBulkAll elems + uptoBulkAll spare + 1
  | .agg parts => uptoBulkAll parts + 1
  | .iface _ d => uptoBulk d + 1
  | .map entries => uptoBulkEntries entries + 1
  | .held _ => 1
def uptoBulkAll {H : Type} : List (DataW H) → Nat
  | [] => 0
  | d :: r => uptoBulk d + uptoBulkAll r
def uptoBulkEntries {H : Type} : List (Lit × DataW H) → Nat
  | [] => 0
  | x :: r => uptoBulkEntry x + uptoBulkEntries r
def uptoBulkEntry {H : Type} : Lit × DataW H → Nat
  | (.string bytes, d) => bytes.length + uptoBulk d + 1
  | (_, d) => uptoBulk d + 1
 end
def uptoSmall : (H : Type) → List (DataW H) → Bool := fun _ ds => decide (uptoBulkAll ds ≤ 1048576)
def OpenSpec.upto (s : _root_.Go.ChangeSpec) : _root_.Go.OpenSpec := { _root_.Go.OpenSpec.ofChange s with cond := some uptoSmall }

/-- 'almerylaw10.ProxyActs', WHERE WHAT IT READS IS OF BULK AT MOST 1048576: true; the input reads as it did. -/
def proxyActsUptoRow : OpenClaim := { program := "ytkbifnbblimnlaa", sum := "654dbc980a2879b8177ba9b2a966b5ff81c974cf5b3cd3546a25ebc4714897a1", func := "almery/almerylaw10.ProxyActs", spec := "proxyActs", unfollowed := true, recurses := true, apart := false, narrowed := true }
def ProxyActsUptoSaid : Prop := proxyActsUptoRow.holds Try.pinned (OpenSpec.upto proxyActsSpec)

/-- 'almerylaw10.ProxyNew', WHERE WHAT IT READS IS OF BULK AT MOST 1048576: true; the input reads as it did. -/
def proxyNewUptoRow : OpenClaim := { program := "ytkbifnbblimnlaa", sum := "654dbc980a2879b8177ba9b2a966b5ff81c974cf5b3cd3546a25ebc4714897a1", func := "almery/almerylaw10.ProxyNew", spec := "proxyNew", unfollowed := true, recurses := true, apart := false, narrowed := true }
def ProxyNewUptoSaid : Prop := proxyNewUptoRow.holds Try.pinned (OpenSpec.upto proxyNewSpec)

/-- 'almerylaw10.ProxyLooks', WHERE WHAT IT READS IS OF BULK AT MOST 1048576: true; the input reads as it did. -/
def proxyLooksUptoRow : OpenClaim := { program := "ytkbifnbblimnlaa", sum := "654dbc980a2879b8177ba9b2a966b5ff81c974cf5b3cd3546a25ebc4714897a1", func := "almery/almerylaw10.ProxyLooks", spec := "proxyLooks", unfollowed := true, recurses := true, apart := false, narrowed := true }
def ProxyLooksUptoSaid : Prop := proxyLooksUptoRow.holds Try.pinned (OpenSpec.upto proxyLooksSpec)

/-- 'almerylaw10.ProxyLife', WHERE WHAT IT READS IS OF BULK AT MOST 1048576: true; the input reads as it did. -/
def proxyLifeUptoRow : OpenClaim := { program := "ytkbifnbblimnlaa", sum := "654dbc980a2879b8177ba9b2a966b5ff81c974cf5b3cd3546a25ebc4714897a1", func := "almery/almerylaw10.ProxyLife", spec := "proxyLife", unfollowed := true, recurses := true, apart := false, narrowed := true }
def ProxyLifeUptoSaid : Prop := proxyLifeUptoRow.holds Try.pinned (OpenSpec.upto proxyLifeSpec)

/-- 'almerylaw10.ProxyNobody', WHERE WHAT IT READS IS OF BULK AT MOST 1048576: true; the input reads as it did. -/
def proxyNobodyUptoRow : OpenClaim := { program := "ytkbifnbblimnlaa", sum := "654dbc980a2879b8177ba9b2a966b5ff81c974cf5b3cd3546a25ebc4714897a1", func := "almery/almerylaw10.ProxyNobody", spec := "proxyNobody", unfollowed := true, recurses := true, apart := false, narrowed := true }
def ProxyNobodyUptoSaid : Prop := proxyNobodyUptoRow.holds Try.pinned (OpenSpec.upto proxyNobodySpec)

end Rows
end Go.Proofs.Ytkbifnbblimnlaa
