/-
  No cell of these rows narrows 'for every input' (looked for: loops, veiled, ifaces, maps, wideKeys, modest, calm, conditions, laid).
  DERIVED. THE GIVEN ROWS OF THIS SEAT. 13 by the template 'for every input the law returns true; each argument reads behind the call as it read before'; 0 by the template 'total and deterministic' (their statements: YtinndlofnpkfhaaTotals.lean).
  GIVEN WITH THE SEED: the statements are not yours to turn. If you find one false, say at which input.
  Laid BY PROGRAM, IN A SANDBOX (cutbox-rows.mjs): the forced cells as the released guide's own fill.sh prints them over the translation 90ec1a03b43256ee… (all of the seat's roots in one cut). By AI agents, Wed Nov 11 2026. No macro, syntax, notation, axiom, sorry.
-/
import Derived.Test.YtinndlofnpkfhaaChecked
import GoSem.Claim
import GoSem.ClaimJoined
import GoSem.ClaimMapViews
import Derived.JoinedTies
import Derived.KernelRfl
namespace Go.Proofs.Ytinndlofnpkfhaa
/- THE CELL 'sum', in the pinned program and in every row, IS THE sha256 OF THE DUMP (.gsa) THAT YtinndlofnpkfhaaProg.lean LOADS. Nothing in Lean hashes anything: it is a label: what it is worth is what the hold of that sum in a sandbox is worth. -/
noncomputable def Try.pinned : Pinned := { name := "ytinndlofnpkfhaa", sum := "90ec1a03b43256eeecf215b4c13823b4f2dc9d28ffd479c805638ac9a6ae00d0", checked := Try.checked }
namespace Rows
def none {H : Type} : Left H := { results := [], args := [] }

/-- 'cubbylaw02.SumCRC': WHATEVER THE INPUT: true; the input reads as it did. -/
def sumCRCSpec : ChangeSpec := { name := "sumCRC", fn := fun _ => fun
  | [d] => { results := [.lit (.bool true)], args := [d] }
  | _ => none }
def sumCRCRow : OpenClaim := { program := "ytinndlofnpkfhaa", sum := "90ec1a03b43256eeecf215b4c13823b4f2dc9d28ffd479c805638ac9a6ae00d0", func := "cubby/cubbylaw02.SumCRC", spec := "sumCRC", apart := false }
def SumCRCSaid : Prop := sumCRCRow.holds Try.pinned (OpenSpec.ofChange sumCRCSpec)

/-- ITS FALSE NEIGHBOUR: 'it returns false'. Refute it at one input. -/
def sumCRCWrong : ChangeSpec := { name := "sumCRC", fn := fun _ => fun
  | [d] => { results := [.lit (.bool false)], args := [d] }
  | _ => none }
def SumCRCWrongFalsely : Prop := sumCRCRow.holds Try.pinned (OpenSpec.ofChange sumCRCWrong)

/-- 'cubbylaw03.CodecReads': WHATEVER THE INPUT: true; the input reads as it did. -/
def codecReadsSpec : ChangeSpec := { name := "codecReads", fn := fun _ => fun
  | [d1, d2] => { results := [.lit (.bool true)], args := [d1, d2] }
  | _ => none }
def codecReadsRow : OpenClaim := { program := "ytinndlofnpkfhaa", sum := "90ec1a03b43256eeecf215b4c13823b4f2dc9d28ffd479c805638ac9a6ae00d0", func := "cubby/cubbylaw03.CodecReads", spec := "codecReads", apart := false }
def CodecReadsSaid : Prop := codecReadsRow.holds Try.pinned (OpenSpec.ofChange codecReadsSpec)

/-- ITS FALSE NEIGHBOUR: 'it returns false'. Refute it at one input. -/
def codecReadsWrong : ChangeSpec := { name := "codecReads", fn := fun _ => fun
  | [d1, d2] => { results := [.lit (.bool false)], args := [d1, d2] }
  | _ => none }
def CodecReadsWrongFalsely : Prop := codecReadsRow.holds Try.pinned (OpenSpec.ofChange codecReadsWrong)

/-- 'cubbylaw03.CodecWrites': WHATEVER THE INPUT: true; the input reads as it did. -/
def codecWritesSpec : ChangeSpec := { name := "codecWrites", fn := fun _ => fun
  | [d] => { results := [.lit (.bool true)], args := [d] }
  | _ => none }
def codecWritesRow : OpenClaim := { program := "ytinndlofnpkfhaa", sum := "90ec1a03b43256eeecf215b4c13823b4f2dc9d28ffd479c805638ac9a6ae00d0", func := "cubby/cubbylaw03.CodecWrites", spec := "codecWrites", apart := false }
def CodecWritesSaid : Prop := codecWritesRow.holds Try.pinned (OpenSpec.ofChange codecWritesSpec)

/-- ITS FALSE NEIGHBOUR: 'it returns false'. Refute it at one input. -/
def codecWritesWrong : ChangeSpec := { name := "codecWrites", fn := fun _ => fun
  | [d] => { results := [.lit (.bool false)], args := [d] }
  | _ => none }
def CodecWritesWrongFalsely : Prop := codecWritesRow.holds Try.pinned (OpenSpec.ofChange codecWritesWrong)

/-- 'cubbylaw03.CodecNil': WHATEVER THE INPUT: true; the input reads as it did. -/
def codecNilSpec : ChangeSpec := { name := "codecNil", fn := fun _ => fun
  | [d1, d2] => { results := [.lit (.bool true)], args := [d1, d2] }
  | _ => none }
def codecNilRow : OpenClaim := { program := "ytinndlofnpkfhaa", sum := "90ec1a03b43256eeecf215b4c13823b4f2dc9d28ffd479c805638ac9a6ae00d0", func := "cubby/cubbylaw03.CodecNil", spec := "codecNil", apart := false }
def CodecNilSaid : Prop := codecNilRow.holds Try.pinned (OpenSpec.ofChange codecNilSpec)

/-- ITS FALSE NEIGHBOUR: 'it returns false'. Refute it at one input. -/
def codecNilWrong : ChangeSpec := { name := "codecNil", fn := fun _ => fun
  | [d1, d2] => { results := [.lit (.bool false)], args := [d1, d2] }
  | _ => none }
def CodecNilWrongFalsely : Prop := codecNilRow.holds Try.pinned (OpenSpec.ofChange codecNilWrong)

/-- 'cubbylaw05.PageWrites': WHATEVER THE INPUT: true; the input reads as it did. -/
def pageWritesSpec : ChangeSpec := { name := "pageWrites", fn := fun _ => fun
  | [d1, d2] => { results := [.lit (.bool true)], args := [d1, d2] }
  | _ => none }
def pageWritesRow : OpenClaim := { program := "ytinndlofnpkfhaa", sum := "90ec1a03b43256eeecf215b4c13823b4f2dc9d28ffd479c805638ac9a6ae00d0", func := "cubby/cubbylaw05.PageWrites", spec := "pageWrites", apart := false }
def PageWritesSaid : Prop := pageWritesRow.holds Try.pinned (OpenSpec.ofChange pageWritesSpec)

/-- ITS FALSE NEIGHBOUR: 'it returns false'. Refute it at one input. -/
def pageWritesWrong : ChangeSpec := { name := "pageWrites", fn := fun _ => fun
  | [d1, d2] => { results := [.lit (.bool false)], args := [d1, d2] }
  | _ => none }
def PageWritesWrongFalsely : Prop := pageWritesRow.holds Try.pinned (OpenSpec.ofChange pageWritesWrong)

/-- 'cubbylaw05.PageReads': WHATEVER THE INPUT: true; the input reads as it did. -/
def pageReadsSpec : ChangeSpec := { name := "pageReads", fn := fun _ => fun
  | [d1, d2] => { results := [.lit (.bool true)], args := [d1, d2] }
  | _ => none }
def pageReadsRow : OpenClaim := { program := "ytinndlofnpkfhaa", sum := "90ec1a03b43256eeecf215b4c13823b4f2dc9d28ffd479c805638ac9a6ae00d0", func := "cubby/cubbylaw05.PageReads", spec := "pageReads", apart := false }
def PageReadsSaid : Prop := pageReadsRow.holds Try.pinned (OpenSpec.ofChange pageReadsSpec)

/-- ITS FALSE NEIGHBOUR: 'it returns false'. Refute it at one input. -/
def pageReadsWrong : ChangeSpec := { name := "pageReads", fn := fun _ => fun
  | [d1, d2] => { results := [.lit (.bool false)], args := [d1, d2] }
  | _ => none }
def PageReadsWrongFalsely : Prop := pageReadsRow.holds Try.pinned (OpenSpec.ofChange pageReadsWrong)

/-- 'cubbylaw05.PageTurned': WHATEVER THE INPUT: true; the input reads as it did. -/
def pageTurnedSpec : ChangeSpec := { name := "pageTurned", fn := fun _ => fun
  | [d1, d2, d3, d4, d5] => { results := [.lit (.bool true)], args := [d1, d2, d3, d4, d5] }
  | _ => none }
def pageTurnedRow : OpenClaim := { program := "ytinndlofnpkfhaa", sum := "90ec1a03b43256eeecf215b4c13823b4f2dc9d28ffd479c805638ac9a6ae00d0", func := "cubby/cubbylaw05.PageTurned", spec := "pageTurned", apart := false }
def PageTurnedSaid : Prop := pageTurnedRow.holds Try.pinned (OpenSpec.ofChange pageTurnedSpec)

/-- ITS FALSE NEIGHBOUR: 'it returns false'. Refute it at one input. -/
def pageTurnedWrong : ChangeSpec := { name := "pageTurned", fn := fun _ => fun
  | [d1, d2, d3, d4, d5] => { results := [.lit (.bool false)], args := [d1, d2, d3, d4, d5] }
  | _ => none }
def PageTurnedWrongFalsely : Prop := pageTurnedRow.holds Try.pinned (OpenSpec.ofChange pageTurnedWrong)

/-- 'cubbylaw02.SumDigest': WHATEVER THE INPUT: true; the input reads as it did. -/
def sumDigestSpec : ChangeSpec := { name := "sumDigest", fn := fun _ => fun
  | [d] => { results := [.lit (.bool true)], args := [d] }
  | _ => none }
def sumDigestRow : OpenClaim := { program := "ytinndlofnpkfhaa", sum := "90ec1a03b43256eeecf215b4c13823b4f2dc9d28ffd479c805638ac9a6ae00d0", func := "cubby/cubbylaw02.SumDigest", spec := "sumDigest", apart := false }
def SumDigestSaid : Prop := sumDigestRow.holds Try.pinned (OpenSpec.ofChange sumDigestSpec)

/-- ITS FALSE NEIGHBOUR: 'it returns false'. Refute it at one input. -/
def sumDigestWrong : ChangeSpec := { name := "sumDigest", fn := fun _ => fun
  | [d] => { results := [.lit (.bool false)], args := [d] }
  | _ => none }
def SumDigestWrongFalsely : Prop := sumDigestRow.holds Try.pinned (OpenSpec.ofChange sumDigestWrong)

/-- 'cubbylaw02.SumOther': WHATEVER THE INPUT: true; the input reads as it did. -/
def sumOtherSpec : ChangeSpec := { name := "sumOther", fn := fun _ => fun
  | [d1, d2, d3] => { results := [.lit (.bool true)], args := [d1, d2, d3] }
  | _ => none }
def sumOtherRow : OpenClaim := { program := "ytinndlofnpkfhaa", sum := "90ec1a03b43256eeecf215b4c13823b4f2dc9d28ffd479c805638ac9a6ae00d0", func := "cubby/cubbylaw02.SumOther", spec := "sumOther", apart := false }
def SumOtherSaid : Prop := sumOtherRow.holds Try.pinned (OpenSpec.ofChange sumOtherSpec)

/-- ITS FALSE NEIGHBOUR: 'it returns false'. Refute it at one input. -/
def sumOtherWrong : ChangeSpec := { name := "sumOther", fn := fun _ => fun
  | [d1, d2, d3] => { results := [.lit (.bool false)], args := [d1, d2, d3] }
  | _ => none }
def SumOtherWrongFalsely : Prop := sumOtherRow.holds Try.pinned (OpenSpec.ofChange sumOtherWrong)

/-- 'cubbylaw04.FrameWrites': WHATEVER THE INPUT: true; the input reads as it did. -/
def frameWritesSpec : ChangeSpec := { name := "frameWrites", fn := fun _ => fun
  | [d1, d2] => { results := [.lit (.bool true)], args := [d1, d2] }
  | _ => none }
def frameWritesRow : OpenClaim := { program := "ytinndlofnpkfhaa", sum := "90ec1a03b43256eeecf215b4c13823b4f2dc9d28ffd479c805638ac9a6ae00d0", func := "cubby/cubbylaw04.FrameWrites", spec := "frameWrites", apart := false }
def FrameWritesSaid : Prop := frameWritesRow.holds Try.pinned (OpenSpec.ofChange frameWritesSpec)

/-- ITS FALSE NEIGHBOUR: 'it returns false'. Refute it at one input. -/
def frameWritesWrong : ChangeSpec := { name := "frameWrites", fn := fun _ => fun
  | [d1, d2] => { results := [.lit (.bool false)], args := [d1, d2] }
  | _ => none }
def FrameWritesWrongFalsely : Prop := frameWritesRow.holds Try.pinned (OpenSpec.ofChange frameWritesWrong)

/-- 'cubbylaw04.FrameScans': WHATEVER THE INPUT: true; the input reads as it did. -/
def frameScansSpec : ChangeSpec := { name := "frameScans", fn := fun _ => fun
  | [d] => { results := [.lit (.bool true)], args := [d] }
  | _ => none }
def frameScansRow : OpenClaim := { program := "ytinndlofnpkfhaa", sum := "90ec1a03b43256eeecf215b4c13823b4f2dc9d28ffd479c805638ac9a6ae00d0", func := "cubby/cubbylaw04.FrameScans", spec := "frameScans", inPlace := ["internal/bytealg.IndexByte", "internal/bytealg.Index"], named := ["internal/bytealg.MaxLen"], apart := false }
def FrameScansSaid : Prop := frameScansRow.holds Try.pinned (OpenSpec.ofChange frameScansSpec)

/-- ITS FALSE NEIGHBOUR: 'it returns false'. Refute it at one input. -/
def frameScansWrong : ChangeSpec := { name := "frameScans", fn := fun _ => fun
  | [d] => { results := [.lit (.bool false)], args := [d] }
  | _ => none }
def FrameScansWrongFalsely : Prop := frameScansRow.holds Try.pinned (OpenSpec.ofChange frameScansWrong)

/-- 'cubbylaw04.FrameBack': WHATEVER THE INPUT: true; the input reads as it did. -/
def frameBackSpec : ChangeSpec := { name := "frameBack", fn := fun _ => fun
  | [d1, d2, d3] => { results := [.lit (.bool true)], args := [d1, d2, d3] }
  | _ => none }
def frameBackRow : OpenClaim := { program := "ytinndlofnpkfhaa", sum := "90ec1a03b43256eeecf215b4c13823b4f2dc9d28ffd479c805638ac9a6ae00d0", func := "cubby/cubbylaw04.FrameBack", spec := "frameBack", inPlace := ["internal/bytealg.IndexByte", "internal/bytealg.Index"], named := ["internal/bytealg.MaxLen"], apart := false }
def FrameBackSaid : Prop := frameBackRow.holds Try.pinned (OpenSpec.ofChange frameBackSpec)

/-- ITS FALSE NEIGHBOUR: 'it returns false'. Refute it at one input. -/
def frameBackWrong : ChangeSpec := { name := "frameBack", fn := fun _ => fun
  | [d1, d2, d3] => { results := [.lit (.bool false)], args := [d1, d2, d3] }
  | _ => none }
def FrameBackWrongFalsely : Prop := frameBackRow.holds Try.pinned (OpenSpec.ofChange frameBackWrong)

/-- 'cubbylaw04.FrameHeals': WHATEVER THE INPUT: true; the input reads as it did. -/
def frameHealsSpec : ChangeSpec := { name := "frameHeals", fn := fun _ => fun
  | [d1, d2, d3] => { results := [.lit (.bool true)], args := [d1, d2, d3] }
  | _ => none }
def frameHealsRow : OpenClaim := { program := "ytinndlofnpkfhaa", sum := "90ec1a03b43256eeecf215b4c13823b4f2dc9d28ffd479c805638ac9a6ae00d0", func := "cubby/cubbylaw04.FrameHeals", spec := "frameHeals", inPlace := ["internal/bytealg.IndexByte", "internal/bytealg.Index"], named := ["internal/bytealg.MaxLen"], apart := false }
def FrameHealsSaid : Prop := frameHealsRow.holds Try.pinned (OpenSpec.ofChange frameHealsSpec)

/-- ITS FALSE NEIGHBOUR: 'it returns false'. Refute it at one input. -/
def frameHealsWrong : ChangeSpec := { name := "frameHeals", fn := fun _ => fun
  | [d1, d2, d3] => { results := [.lit (.bool false)], args := [d1, d2, d3] }
  | _ => none }
def FrameHealsWrongFalsely : Prop := frameHealsRow.holds Try.pinned (OpenSpec.ofChange frameHealsWrong)

/- THE SECOND FORM. 'bulk': how many values and letters a reading holds, each counted each time it is reached (what is shared counts as often as it is met; a slice's spare places count too). A statement '..UptoSaid' is the law's where the arguments, and the package variables that the reading takes, are together of bulk at most 1048576: NARROWER than '..Said'. Prove '..Said' where nothing that the law and all that it calls make is longer than what came in: it says more and counts as full. Else prove '..UptoSaid'. A law counts once. -/
mutual
def uptoBulk {H : Type} : DataW H → Nat
  | .lit (.string bytes) => bytes.length + 1
  | .lit _ => 1
  | .nil => 1
  | .ptr d => uptoBulk d + 1
  | .slice elems spare => uptoBulkAll elems + uptoBulkAll spare + 1
  | .agg parts => uptoBulkAll parts + 1
  | .iface _ d => uptoBulk d + 1
  | .map entries => uptoBulkEntries entries + 1
  | .held _ => 1
def uptoBulkAll {H : Type} : List (DataW H) → Nat
  | [] => 0
  | d :: r => uptoBulk d + uptoBulkAll r
def uptoBulkEntries {H : Type} : List (Lit × DataW H) → Nat
  | [] => 0
  | x :: r => uptoBulkEntry x + uptoBulkEntries r
def uptoBulkEntry {H : Type} : Lit × DataW H → Nat
  | (.string bytes, d) => bytes.length + uptoBulk d + 1
  | (_, d) => uptoBulk d + 1
 end
def uptoSmall : (H : Type) → List (DataW H) → Bool := fun _ ds => decide (uptoBulkAll ds ≤ 1048576)
def OpenSpec.upto (s : _root_.Go.ChangeSpec) : _root_.Go.OpenSpec := { _root_.Go.OpenSpec.ofChange s with cond := some uptoSmall }

/-- 'cubbylaw02.SumCRC', WHERE WHAT IT READS IS OF BULK AT MOST 1048576: true; the input reads as it did. -/
def sumCRCUptoRow : OpenClaim := { program := "ytinndlofnpkfhaa", sum := "90ec1a03b43256eeecf215b4c13823b4f2dc9d28ffd479c805638ac9a6ae00d0", func := "cubby/cubbylaw02.SumCRC", spec := "sumCRC", apart := false, narrowed := true }
def SumCRCUptoSaid : Prop := sumCRCUptoRow.holds Try.pinned (OpenSpec.upto sumCRCSpec)

/-- 'cubbylaw03.CodecReads', WHERE WHAT IT READS IS OF BULK AT MOST 1048576: true; the input reads as it did. -/
def codecReadsUptoRow : OpenClaim := { program := "ytinndlofnpkfhaa", sum := "90ec1a03b43256eeecf215b4c13823b4f2dc9d28ffd479c805638ac9a6ae00d0", func := "cubby/cubbylaw03.CodecReads", spec := "codecReads", apart := false, narrowed := true }
def CodecReadsUptoSaid : Prop := codecReadsUptoRow.holds Try.pinned (OpenSpec.upto codecReadsSpec)

/-- 'cubbylaw03.CodecWrites', WHERE WHAT IT READS IS OF BULK AT MOST 1048576: true; the input reads as it did. -/
def codecWritesUptoRow : OpenClaim := { program := "ytinndlofnpkfhaa", sum := "90ec1a03b43256eeecf215b4c13823b4f2dc9d28ffd479c805638ac9a6ae00d0", func := "cubby/cubbylaw03.CodecWrites", spec := "codecWrites", apart := false, narrowed := true }
def CodecWritesUptoSaid : Prop := codecWritesUptoRow.holds Try.pinned (OpenSpec.upto codecWritesSpec)

/-- 'cubbylaw03.CodecNil', WHERE WHAT IT READS IS OF BULK AT MOST 1048576: true; the input reads as it did. -/
def codecNilUptoRow : OpenClaim := { program := "ytinndlofnpkfhaa", sum := "90ec1a03b43256eeecf215b4c13823b4f2dc9d28ffd479c805638ac9a6ae00d0", func := "cubby/cubbylaw03.CodecNil", spec := "codecNil", apart := false, narrowed := true }
def CodecNilUptoSaid : Prop := codecNilUptoRow.holds Try.pinned (OpenSpec.upto codecNilSpec)

/-- 'cubbylaw05.PageWrites', WHERE WHAT IT READS IS OF BULK AT MOST 1048576: true; the input reads as it did. -/
def pageWritesUptoRow : OpenClaim := { program := "ytinndlofnpkfhaa", sum := "90ec1a03b43256eeecf215b4c13823b4f2dc9d28ffd479c805638ac9a6ae00d0", func := "cubby/cubbylaw05.PageWrites", spec := "pageWrites", apart := false, narrowed := true }
def PageWritesUptoSaid : Prop := pageWritesUptoRow.holds Try.pinned (OpenSpec.upto pageWritesSpec)

/-- 'cubbylaw05.PageReads', WHERE WHAT IT READS IS OF BULK AT MOST 1048576: true; the input reads as it did. -/
def pageReadsUptoRow : OpenClaim := { program := "ytinndlofnpkfhaa", sum := "90ec1a03b43256eeecf215b4c13823b4f2dc9d28ffd479c805638ac9a6ae00d0", func := "cubby/cubbylaw05.PageReads", spec := "pageReads", apart := false, narrowed := true }
def PageReadsUptoSaid : Prop := pageReadsUptoRow.holds Try.pinned (OpenSpec.upto pageReadsSpec)

/-- 'cubbylaw05.PageTurned', WHERE WHAT IT READS IS OF BULK AT MOST 1048576: true; the input reads as it did. -/
def pageTurnedUptoRow : OpenClaim := { program := "ytinndlofnpkfhaa", sum := "90ec1a03b43256eeecf215b4c13823b4f2dc9d28ffd479c805638ac9a6ae00d0", func := "cubby/cubbylaw05.PageTurned", spec := "pageTurned", apart := false, narrowed := true }
def PageTurnedUptoSaid : Prop := pageTurnedUptoRow.holds Try.pinned (OpenSpec.upto pageTurnedSpec)

/-- 'cubbylaw02.SumDigest', WHERE WHAT IT READS IS OF BULK AT MOST 1048576: true; the input reads as it did. -/
def sumDigestUptoRow : OpenClaim := { program := "ytinndlofnpkfhaa", sum := "90ec1a03b43256eeecf215b4c13823b4f2dc9d28ffd479c805638ac9a6ae00d0", func := "cubby/cubbylaw02.SumDigest", spec := "sumDigest", apart := false, narrowed := true }
def SumDigestUptoSaid : Prop := sumDigestUptoRow.holds Try.pinned (OpenSpec.upto sumDigestSpec)

/-- 'cubbylaw02.SumOther', WHERE WHAT IT READS IS OF BULK AT MOST 1048576: true; the input reads as it did. -/
def sumOtherUptoRow : OpenClaim := { program := "ytinndlofnpkfhaa", sum := "90ec1a03b43256eeecf215b4c13823b4f2dc9d28ffd479c805638ac9a6ae00d0", func := "cubby/cubbylaw02.SumOther", spec := "sumOther", apart := false, narrowed := true }
def SumOtherUptoSaid : Prop := sumOtherUptoRow.holds Try.pinned (OpenSpec.upto sumOtherSpec)

/-- 'cubbylaw04.FrameWrites', WHERE WHAT IT READS IS OF BULK AT MOST 1048576: true; the input reads as it did. -/
def frameWritesUptoRow : OpenClaim := { program := "ytinndlofnpkfhaa", sum := "90ec1a03b43256eeecf215b4c13823b4f2dc9d28ffd479c805638ac9a6ae00d0", func := "cubby/cubbylaw04.FrameWrites", spec := "frameWrites", apart := false, narrowed := true }
def FrameWritesUptoSaid : Prop := frameWritesUptoRow.holds Try.pinned (OpenSpec.upto frameWritesSpec)

/-- 'cubbylaw04.FrameScans', WHERE WHAT IT READS IS OF BULK AT MOST 1048576: true; the input reads as it did. -/
def frameScansUptoRow : OpenClaim := { program := "ytinndlofnpkfhaa", sum := "90ec1a03b43256eeecf215b4c13823b4f2dc9d28ffd479c805638ac9a6ae00d0", func := "cubby/cubbylaw04.FrameScans", spec := "frameScans", inPlace := ["internal/bytealg.IndexByte", "internal/bytealg.Index"], named := ["internal/bytealg.MaxLen"], apart := false, narrowed := true }
def FrameScansUptoSaid : Prop := frameScansUptoRow.holds Try.pinned (OpenSpec.upto frameScansSpec)

/-- 'cubbylaw04.FrameBack', WHERE WHAT IT READS IS OF BULK AT MOST 1048576: true; the input reads as it did. -/
def frameBackUptoRow : OpenClaim := { program := "ytinndlofnpkfhaa", sum := "90ec1a03b43256eeecf215b4c13823b4f2dc9d28ffd479c805638ac9a6ae00d0", func := "cubby/cubbylaw04.FrameBack", spec := "frameBack", inPlace := ["internal/bytealg.IndexByte", "internal/bytealg.Index"], named := ["internal/bytealg.MaxLen"], apart := false, narrowed := true }
def FrameBackUptoSaid : Prop := frameBackUptoRow.holds Try.pinned (OpenSpec.upto frameBackSpec)

/-- 'cubbylaw04.FrameHeals', WHERE WHAT IT READS IS OF BULK AT MOST 1048576: true; the input reads as it did. -/
def frameHealsUptoRow : OpenClaim := { program := "ytinndlofnpkfhaa", sum := "90ec1a03b43256eeecf215b4c13823b4f2dc9d28ffd479c805638ac9a6ae00d0", func := "cubby/cubbylaw04.FrameHeals", spec := "frameHeals", inPlace := ["internal/bytealg.IndexByte", "internal/bytealg.Index"], named := ["internal/bytealg.MaxLen"], apart := false, narrowed := true }
def FrameHealsUptoSaid : Prop := frameHealsUptoRow.holds Try.pinned (OpenSpec.upto frameHealsSpec)

end Rows
end Go.Proofs.Ytinndlofnpkfhaa
