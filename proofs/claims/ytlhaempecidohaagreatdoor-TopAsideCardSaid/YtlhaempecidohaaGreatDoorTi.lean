/-
  The tie of the row of TopAside: the given tie's closed facts, each a theorem of its own.
-/
import Derived.Test.YtlhaempecidohaaGreatDoorRows
import Derived.LaidByTextLater
import Derived.SevenTiedAt
import Derived.LaidSub
import Derived.LaidOnce
namespace Go.Proofs.YtlhaempecidohaaGreatDoor
open Go
set_option maxRecDepth 100000

abbrev tieL : List (String × DataW Unit) := [("internal/strconv.uint64pow10", Rows.laid_internal_strconv_uint64pow10), ("math/bits.deBruijn32tab", Rows.laid_math_bits_deBruijn32tab), ("math/bits.deBruijn64tab", Rows.laid_math_bits_deBruijn64tab), ("strconv.ErrSyntax", Rows.laid_strconv_ErrSyntax), ("strconv.ErrRange", Rows.laid_strconv_ErrRange), ("unicode/utf8.acceptRanges", Rows.laid_unicode_utf8_acceptRanges)]
abbrev tieK : List LaidKind := [.data, .data, .data, .sentinel, .sentinel, .data]
theorem tie_w1 : Tryz.prog.worded (varsWordLater true) = true := by kernel_rfl
theorem tie_w2 : Tryz.prog.worded (varsWordLater !true) = false := by kernel_rfl
theorem tie_root : Tryz.prog.worded rootWordLater = true := by kernel_rfl
theorem tie_kinds : tieL.map (fun x => Tryz.prog.kindOfLater x.1) = tieK.map some := by kernel_rfl
theorem tie_vars : (Tryz.prog.funcNamed "gosem.cut.vars").isSome = true := by kernel_rfl
theorem tie_named : varsNamedLaterB Tryz.prog (varsId Tryz.prog) tieL = true := by kernel_rfl
theorem tie_run (os : Os) (tape : Tape) : doorLeaves Tryz.prog 72 8 65 tieL os tape = some (tieL.filter fun x => x.2.handleName?.isNone, (funcsListed tieL).map (·.2.funcsOut)) := by kernel_rfl
theorem tie_one : Tryz.prog.laidByTextLater tieL tieK true :=
  Program.laidByTextLater_by_one 72 8 65 tie_w1 tie_w2 tie_root tie_kinds tie_vars tie_named tie_run
theorem tie_pin1 : Tryz.pinned.checked.prog.pinnedFits "unicode.CaseRanges" = true := by kernel_rfl
theorem tie_pin2 : Tryz.pinned.checked.prog.pinnedFits "unicode/utf8.first" = true := by kernel_rfl
theorem tie_own : Tryz.pinned.checked.prog.headLifts.contains "ownunsafe" = false := by kernel_rfl
theorem tie_fits : Tryz.pinned.checked.prog.listedFits [("internal/strconv.uint64pow10", Rows.laid_internal_strconv_uint64pow10), ("math/bits.deBruijn32tab", Rows.laid_math_bits_deBruijn32tab), ("math/bits.deBruijn64tab", Rows.laid_math_bits_deBruijn64tab), ("strconv.ErrSyntax", Rows.laid_strconv_ErrSyntax), ("strconv.ErrRange", Rows.laid_strconv_ErrRange), ("unicode/utf8.first", Rows.laid_unicode_utf8_first), ("unicode/utf8.acceptRanges", Rows.laid_unicode_utf8_acceptRanges), ("unicode.CaseRanges", Rows.laid_unicode_CaseRanges)] = true := by
  unfold Program.listedFits
  rw [tie_own]
  kernel_rfl
theorem topAside_tied : Rows.topAsideRow.laidByTextAt .later Tryz.pinned [.data, .data, .data, .sentinel, .sentinel, .pinned, .data, .pinned] true :=
  OpenClaim.laidByTextAt_pinned rfl rfl tie_one rfl rfl rfl rfl (fun y hy _e => by
    simp only [Rows.topAsideRow, List.zip_cons_cons, List.zip_nil_right, List.mem_cons, List.mem_nil_iff, or_false] at hy
    rcases hy with rfl | rfl | rfl | rfl | rfl | rfl | rfl | rfl
    · cases _e
    · cases _e
    · cases _e
    · cases _e
    · cases _e
    · exact ⟨tie_pin2, by kernel_rfl⟩
    · cases _e
    · exact ⟨tie_pin1, by kernel_rfl⟩) tie_fits
end Go.Proofs.YtlhaempecidohaaGreatDoor
