/-
  No cell of these rows narrows 'for every input' (looked for: loops, veiled, ifaces, maps, wideKeys, modest, calm, conditions, laid).
  DERIVED. THE GIVEN ROWS OF THIS SEAT. 3 by the template 'for every input the law returns true; each argument reads behind the call as it read before'; 0 by the template 'total and deterministic' (their statements: YtigkjjbdbficnaaTotals.lean).
  GIVEN WITH THE SEED: the statements are not yours to turn. If you find one false, say at which input.
  Laid BY PROGRAM, IN A SANDBOX (cutbox-rows.mjs): the forced cells as the released guide's own fill.sh prints them over the translation 5ac091c7a7ddd042… (all of the seat's roots in one cut). By AI agents, Wed Nov 11 2026. No macro, syntax, notation, axiom, sorry.
-/
import Derived.Test.YtigkjjbdbficnaaChecked
import GoSem.Claim
import GoSem.ClaimJoined
import GoSem.ClaimMapViews
import Derived.JoinedTies
import Derived.KernelRfl
namespace Go.Proofs.Ytigkjjbdbficnaa
/- THE CELL 'sum', in the pinned program and in every row, IS THE sha256 OF THE DUMP (.gsa) THAT YtigkjjbdbficnaaProg.lean LOADS. Nothing in Lean hashes anything: it is a label: what it is worth is what the hold of that sum in a sandbox is worth. -/
noncomputable def Try.pinned : Pinned := { name := "ytigkjjbdbficnaa", sum := "5ac091c7a7ddd042d04cbc37164f7a0050b9349c7208fa10ba79a64e13af8079", checked := Try.checked }
namespace Rows
def none {H : Type} : Left H := { results := [], args := [] }

/-- 'cubbylaw08.FlagChanges': WHATEVER THE INPUT: true; the input reads as it did. -/
def flagChangesSpec : ChangeSpec := { name := "flagChanges", fn := fun _ => fun
  | [d1, d2, d3] => { results := [.lit (.bool true)], args := [d1, d2, d3] }
  | _ => none }
def flagChangesRow : OpenClaim := { program := "ytigkjjbdbficnaa", sum := "5ac091c7a7ddd042d04cbc37164f7a0050b9349c7208fa10ba79a64e13af8079", func := "cubby/cubbylaw08.FlagChanges", spec := "flagChanges", inPlace := ["internal/abi.NoEscape", "internal/bytealg.MakeNoZero"], apart := false }
def FlagChangesSaid : Prop := flagChangesRow.holds Try.pinned (OpenSpec.ofChange flagChangesSpec)

/-- ITS FALSE NEIGHBOUR: 'it returns false'. Refute it at one input. -/
def flagChangesWrong : ChangeSpec := { name := "flagChanges", fn := fun _ => fun
  | [d1, d2, d3] => { results := [.lit (.bool false)], args := [d1, d2, d3] }
  | _ => none }
def FlagChangesWrongFalsely : Prop := flagChangesRow.holds Try.pinned (OpenSpec.ofChange flagChangesWrong)

/-- 'cubbylaw08.FlagPrints': WHATEVER THE INPUT: true; the input reads as it did. -/
def flagPrintsSpec : ChangeSpec := { name := "flagPrints", fn := fun _ => fun
  | [d] => { results := [.lit (.bool true)], args := [d] }
  | _ => none }
def flagPrintsRow : OpenClaim := { program := "ytigkjjbdbficnaa", sum := "5ac091c7a7ddd042d04cbc37164f7a0050b9349c7208fa10ba79a64e13af8079", func := "cubby/cubbylaw08.FlagPrints", spec := "flagPrints", inPlace := ["internal/abi.NoEscape", "internal/bytealg.MakeNoZero"], unfollowed := true, recurses := true, apart := false }
def FlagPrintsSaid : Prop := flagPrintsRow.holds Try.pinned (OpenSpec.ofChange flagPrintsSpec)

/-- ITS FALSE NEIGHBOUR: 'it returns false'. Refute it at one input. -/
def flagPrintsWrong : ChangeSpec := { name := "flagPrints", fn := fun _ => fun
  | [d] => { results := [.lit (.bool false)], args := [d] }
  | _ => none }
def FlagPrintsWrongFalsely : Prop := flagPrintsRow.holds Try.pinned (OpenSpec.ofChange flagPrintsWrong)

/-- 'cubbylaw08.FlagParses': WHATEVER THE INPUT: true; the input reads as it did. -/
def flagParsesSpec : ChangeSpec := { name := "flagParses", fn := fun _ => fun
  | [d] => { results := [.lit (.bool true)], args := [d] }
  | _ => none }
def flagParsesRow : OpenClaim := { program := "ytigkjjbdbficnaa", sum := "5ac091c7a7ddd042d04cbc37164f7a0050b9349c7208fa10ba79a64e13af8079", func := "cubby/cubbylaw08.FlagParses", spec := "flagParses", inPlace := ["internal/abi.NoEscape", "internal/bytealg.MakeNoZero"], unfollowed := true, recurses := true, apart := false }
def FlagParsesSaid : Prop := flagParsesRow.holds Try.pinned (OpenSpec.ofChange flagParsesSpec)

/-- ITS FALSE NEIGHBOUR: 'it returns false'. Refute it at one input. -/
def flagParsesWrong : ChangeSpec := { name := "flagParses", fn := fun _ => fun
  | [d] => { results := [.lit (.bool false)], args := [d] }
  | _ => none }
def FlagParsesWrongFalsely : Prop := flagParsesRow.holds Try.pinned (OpenSpec.ofChange flagParsesWrong)

/- THE SECOND FORM. 'bulk': how many values and letters a reading holds, each counted each time it is reached (what is shared counts as often as it is met; a slice's spare places count too). A statement '..UptoSaid' is the law's where the arguments, and the package variables that the reading takes, are together of bulk at most 1048576: NARROWER than '..Said'. Prove '..Said' where nothing that the law and all that it calls make is longer than what came in: it says more and counts as full. Else prove '..UptoSaid'. A law counts once. -/
mutual
def uptoBulk {H : Type} : DataW H → Nat
  | .lit (.string bytes) => bytes.length + 1
  | .lit _ => 1
  | .nil => 1
  | .ptr d => uptoBulk d + 1
  | .slice elems spare => uptoBulkAll elems + uptoBulkAll spare + 1
  | .agg parts => uptoBulkAll parts + 1
  | .iface _ d => uptoBulk d + 1
  | .map entries => uptoBulkEntries entries + 1
  | .held _ => 1
def uptoBulkAll {H : Type} : List (DataW H) → Nat
  | [] => 0
  | d :: r => uptoBulk d + uptoBulkAll r
def uptoBulkEntries {H : Type} : List (Lit × DataW H) → Nat
  | [] => 0
  | x :: r => uptoBulkEntry x + uptoBulkEntries r
def uptoBulkEntry {H : Type} : Lit × DataW H → Nat
  | (.string bytes, d) => bytes.length + uptoBulk d + 1
  | (_, d) => uptoBulk d + 1
 end
def uptoSmall : (H : Type) → List (DataW H) → Bool := fun _ ds => decide (uptoBulkAll ds ≤ 1048576)
def OpenSpec.upto (s : _root_.Go.ChangeSpec) : _root_.Go.OpenSpec := { _root_.Go.OpenSpec.ofChange s with cond := some uptoSmall }

/-- 'cubbylaw08.FlagChanges', WHERE WHAT IT READS IS OF BULK AT MOST 1048576: true; the input reads as it did. -/
def flagChangesUptoRow : OpenClaim := { program := "ytigkjjbdbficnaa", sum := "5ac091c7a7ddd042d04cbc37164f7a0050b9349c7208fa10ba79a64e13af8079", func := "cubby/cubbylaw08.FlagChanges", spec := "flagChanges", inPlace := ["internal/abi.NoEscape", "internal/bytealg.MakeNoZero"], apart := false, narrowed := true }
def FlagChangesUptoSaid : Prop := flagChangesUptoRow.holds Try.pinned (OpenSpec.upto flagChangesSpec)

/-- 'cubbylaw08.FlagPrints', WHERE WHAT IT READS IS OF BULK AT MOST 1048576: true; the input reads as it did. -/
def flagPrintsUptoRow : OpenClaim := { program := "ytigkjjbdbficnaa", sum := "5ac091c7a7ddd042d04cbc37164f7a0050b9349c7208fa10ba79a64e13af8079", func := "cubby/cubbylaw08.FlagPrints", spec := "flagPrints", inPlace := ["internal/abi.NoEscape", "internal/bytealg.MakeNoZero"], unfollowed := true, recurses := true, apart := false, narrowed := true }
def FlagPrintsUptoSaid : Prop := flagPrintsUptoRow.holds Try.pinned (OpenSpec.upto flagPrintsSpec)

/-- 'cubbylaw08.FlagParses', WHERE WHAT IT READS IS OF BULK AT MOST 1048576: true; the input reads as it did. -/
def flagParsesUptoRow : OpenClaim := { program := "ytigkjjbdbficnaa", sum := "5ac091c7a7ddd042d04cbc37164f7a0050b9349c7208fa10ba79a64e13af8079", func := "cubby/cubbylaw08.FlagParses", spec := "flagParses", inPlace := ["internal/abi.NoEscape", "internal/bytealg.MakeNoZero"], unfollowed := true, recurses := true, apart := false, narrowed := true }
def FlagParsesUptoSaid : Prop := flagParsesUptoRow.holds Try.pinned (OpenSpec.upto flagParsesSpec)

end Rows
end Go.Proofs.Ytigkjjbdbficnaa
