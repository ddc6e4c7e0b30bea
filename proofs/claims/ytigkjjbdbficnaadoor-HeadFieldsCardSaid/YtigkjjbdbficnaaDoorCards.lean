/-
  DERIVED. GIVEN WITH THE SEED: THE CARDS: each row of YtigkjjbdbficnaaDoorRows.lean that lists a variable, with what it lists TIED to the program's text (the seventh form; the later family's looks); each row that meets fmt, with fmt's text TOLD by the authors' own Lean function (tested against real Go, not proved from fmt's source: count such statements apart). THE CARD IS WHAT COUNTS. Prove the row's statement (the work); the ties are given (YtigkjjbdbficnaaDoorTie.lean); close each card by the builder's one call (the guide's Derived/Test/ToyasCard.lean, 'card_holds'). Laid BY PROGRAM, IN A SANDBOX (cutbox-door.mjs). By AI agents, Wed Nov 11 2026. No macro, syntax, notation, axiom, sorry.
-/
import Derived.Test.YtigkjjbdbficnaaDoorRows
import GoSem.ClaimSeven
namespace Go.Proofs.YtigkjjbdbficnaaDoor
namespace Rows

/-- THE TIED CARD OF 'cubbylaw14.HeadCuts'. -/
def headCutsCard : Claim7 := { stood := { row := headCutsRow, standIns := [], harness := (true, "f8ca05438c7bab57ddeecef668560ef8806502258b9267de5ebdcdb1e5b9db92"), looks := false }, kinds := [], alts := [], laidByText := true, laidKinds := [.data, .pinned], laidTests := true, laidLooks := .later }
def HeadCutsCardSaid : Prop := Claim7.holds Tryd.pinned (.plain (OpenSpec.ofChange headCutsSpec)) headCutsCard

/-- THE TIED CARD OF 'cubbylaw14.HeadFields'. -/
def headFieldsCard : Claim7 := { stood := { row := headFieldsRow, standIns := [], harness := (true, "f8ca05438c7bab57ddeecef668560ef8806502258b9267de5ebdcdb1e5b9db92"), looks := false }, kinds := [], alts := [], laidByText := true, laidKinds := [.data, .pinned], laidTests := true, laidLooks := .later }
def HeadFieldsCardSaid : Prop := Claim7.holds Tryd.pinned (.plain (OpenSpec.ofChange headFieldsSpec)) headFieldsCard

/-- THE SECOND FORM's CARD OF 'cubbylaw14.HeadCuts'. -/
def headCutsUptoCard : Claim7 := { stood := { row := headCutsUptoRow, standIns := [], harness := (true, "f8ca05438c7bab57ddeecef668560ef8806502258b9267de5ebdcdb1e5b9db92"), looks := false }, kinds := [], alts := [], laidByText := true, laidKinds := [.data, .pinned], laidTests := true, laidLooks := .later }
def HeadCutsUptoCardSaid : Prop := Claim7.holds Tryd.pinned (.plain (OpenSpec.upto headCutsSpec)) headCutsUptoCard

/-- THE SECOND FORM's CARD OF 'cubbylaw14.HeadFields'. -/
def headFieldsUptoCard : Claim7 := { stood := { row := headFieldsUptoRow, standIns := [], harness := (true, "f8ca05438c7bab57ddeecef668560ef8806502258b9267de5ebdcdb1e5b9db92"), looks := false }, kinds := [], alts := [], laidByText := true, laidKinds := [.data, .pinned], laidTests := true, laidLooks := .later }
def HeadFieldsUptoCardSaid : Prop := Claim7.holds Tryd.pinned (.plain (OpenSpec.upto headFieldsSpec)) headFieldsUptoCard
end Rows
end Go.Proofs.YtigkjjbdbficnaaDoor
