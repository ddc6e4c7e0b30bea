/-
  The closed facts that the row and the card of TopAside ask of the program, each a theorem of its own.
-/
import Derived.Test.YtlhaempecidohaaGreatDoorRows
import Derived.JoinedOf
import Derived.WalkKit
import Derived.ProofKit
import Derived.SevenTiedAt
import Derived.Stop.Joined
namespace Go.Proofs.YtlhaempecidohaaGreatDoor
open Go
set_option maxRecDepth 100000
theorem j1 : Rows.topAsideRow.wf (OpenSpec.ofChange Rows.topAsideSpec) = true := by kernel_rfl
theorem j2 : laidOutB Tryz.prog = true := by kernel_rfl
theorem j3 : mapsRowed Tryz.prog = true := by kernel_rfl
theorem j4 : Tryz.f3.params.all (Tryz.prog.readableRec ·) = true := by kernel_rfl
theorem j5 : namedTie Tryz.prog Rows.topAsideRow.named Rows.topAsideSpec.vars = true := by kernel_rfl
theorem j6 : (Rows.topAsideRow.stops == []) = true := by kernel_rfl
theorem j7 : (Tryz.prog.stops == []) = true := by kernel_rfl
theorem j8 : (Rows.topAsideRow.knobs == []) = true := by kernel_rfl
theorem j9 : (Tryz.prog.stopKnobs == []) = true := by kernel_rfl
theorem j10 : (Rows.topAsideRow.inPlace == Tryz.prog.inPlace 3) = true := by kernel_rfl
theorem j11 : (Rows.topAsideRow.unfollowed == Tryz.prog.unfollowed 3) = true := by kernel_rfl
theorem j12 : (Rows.topAsideRow.recurses == Tryz.prog.recurses 3) = true := by kernel_rfl
theorem j13 : (Rows.topAsideRow.named == Tryz.prog.varsNamed 3) = true := by kernel_rfl
theorem j14 : (Rows.topAsideRow.maps == (Tryz.f3.params.toList ++ Rows.topAsideSpec.plain.varTypes Tryz.prog).any (Tryz.prog.mapsRec ·)) = true := by kernel_rfl
theorem j15 : (Rows.topAsideRow.ifaces == (Tryz.f3.params.toList ++ Rows.topAsideSpec.plain.varTypes Tryz.prog).any (Tryz.prog.ifacesRec ·)) = true := by kernel_rfl
theorem j16 : (Rows.topAsideRow.mapsOut == Tryz.prog.mapsAmong Tryz.f3.resultTypes.toList) = true := by kernel_rfl
theorem j17 : (Rows.topAsideRow.loops == (Tryz.f3.params.toList ++ Rows.topAsideSpec.plain.varTypes Tryz.prog).any (Tryz.prog.loopsFrom ·)) = true := by kernel_rfl
theorem j18 : (Rows.topAsideRow.wideKeys == (Tryz.f3.params.toList ++ Rows.topAsideSpec.plain.varTypes Tryz.prog ++ Tryz.f3.resultTypes.toList).any (Tryz.prog.wideKeysFrom ·)) = true := by kernel_rfl
theorem j19 : Rows.topAsideSpec.vars.all (Tryz.prog.varReadable ·) = true := by kernel_rfl
theorem j20 : Tryz.f3.resultTypes.all (fun t => Tryz.prog.readableRec t && decide (t < Tryz.prog.types.size)) = true := by kernel_rfl
theorem j21 : (Rows.topAsideRow.ifacesOut == Tryz.f3.resultTypes.toList.any (Tryz.prog.ifacesRec ·)) = true := by kernel_rfl
theorem j22 : (Rows.topAsideRow.loopsOut == Tryz.f3.resultTypes.toList.any (Tryz.prog.loopsFrom ·)) = true := by kernel_rfl
theorem j23 : (Rows.topAsideRow.plainKeys == Tryz.prog.plainKeys) = true := by kernel_rfl
theorem j24 : Rows.topAsideRow.shortTexts.isNone = true := by kernel_rfl
theorem j25 : Tryz.prog.stopsHeard = true := by kernel_rfl
theorem j26 : Tryz.prog.mayEnter = true := by kernel_rfl
theorem j27 : (Rows.topAsideRow.lifted == Tryz.prog.liftsFinal) = true := by kernel_rfl
theorem j28 : (Tryz.prog.make == some Rows.topAsideRow.make) = true := by kernel_rfl
theorem j29 : (Rows.topAsideRow.kinds == (if Rows.topAsideRow.domain.isEmpty then [] else Tryz.f3.params.toList.map fun t => match Tryz.prog.underlying t with | some (.int k) => some k | _ => none)) = true := by kernel_rfl
theorem j30 : (Rows.topAsideRow.pinned == Rows.topAsideRow.pinnedBy) = true := by kernel_rfl
theorem j31 : (Rows.topAsideRow.veiled == (Tryz.f3.params.toList ++ Rows.topAsideSpec.plain.varTypes Tryz.prog ++ Tryz.f3.resultTypes.toList).any (Tryz.prog.veiledRec ·)) = true := by kernel_rfl
theorem j32 : Rows.topAsideRow.veiledFits Tryz.prog Tryz.f3.params.toList (Tryz.f3.params.toList ++ Rows.topAsideSpec.plain.varTypes Tryz.prog ++ Tryz.f3.resultTypes.toList) = true := by kernel_rfl
theorem jn : Tryz.pinned.checked.prog.funcNamed Rows.topAsideRow.func = some 3 := by kernel_rfl
theorem ji : Tryz.f3.isInstance Tryz.prog Rows.topAsideRow.origin Rows.topAsideRow.targs := of_decide_eq_true (by kernel_rfl)
theorem jw : Tryz.f3.isWrapper Tryz.prog Rows.topAsideRow.wrapper Rows.topAsideRow.mainSum := by unfold Func.isWrapper; first | (rw [if_pos (by decide +kernel)]; kernel_rfl) | (rw [if_neg (by decide +kernel)]; exact ⟨rfl, rfl⟩)
theorem jt : Rows.topAsideRow.wfByText (OpenSpec.ofChange Rows.topAsideSpec) = true := by kernel_rfl
theorem jm : Tryz.pinned.checked.prog.mainIs = some (true, "b61ef0fd796794c1d98d98221fb401f7006f21e52613d2c589762b4deaa9e09c".toList) := by kernel_rfl
theorem jl : true = Tryz.pinned.checked.prog.looks [] := by kernel_rfl
theorem ja : ([22, 23, 4].all fun u => !Tryz.prog.wantsStandIn u) = true := by kernel_rfl
theorem jz : Tryz.prog.funcs.any Func.goes = false := by kernel_rfl
theorem goes_none {P : Program} {f : FuncId} (h : P.funcs.any Func.goes = false) : P.goes f = false := by
  have hx : ∀ g : FuncId, (P.funcs[g]?).any Func.goes = false := by
    intro g
    cases hg : P.funcs[g]? with
    | none => rfl
    | some fn =>
      have hm : fn ∈ P.funcs := Array.mem_of_getElem? hg
      have := Array.any_eq_false'.1 h fn hm
      simpa using this
  unfold Program.goes
  rw [h, Bool.and_false, Bool.or_false]
  simp [hx]
theorem jg : false = Rows.topAsideRow.goesBy Tryz.pinned.checked.prog := by
  have e : Rows.topAsideRow.goesBy Tryz.pinned.checked.prog = (Tryz.pinned.checked.prog.goesFrom Rows.topAsideRow.func || false) := rfl
  rw [e, Bool.or_false]
  unfold Program.goesFrom
  rw [jn, Option.any_some]
  exact (goes_none jz).symm
theorem jh (f : FuncId) (fn : Func) (hf : Tryz.pinned.checked.prog.funcNamed Rows.topAsideRow.func = some f) (hfn : Tryz.pinned.checked.prog.funcs[f]? = some fn) :
    true = Tryz.pinned.checked.prog.looks [] ∧ ∀ (j : Nat) t, fn.params[j]? = some t → Tryz.pinned.checked.prog.wantsStandIn t = false := by
  obtain rfl : f = 3 := (Option.some.inj (jn.symm.trans hf)).symm
  obtain rfl : fn = Tryz.f3 := (Option.some.inj (Tryz.func3.symm.trans hfn)).symm
  refine ⟨jl, fun j t ht => ?_⟩
  rw [Tryz.params3] at ht
  have hm : t ∈ [22, 23, 4] := by simpa using Array.mem_of_getElem? ht
  exact (show Tryz.prog.wantsStandIn t = false by simpa using List.all_eq_true.1 ja t hm)
theorem jand {a b : Bool} (h : a = true) (k : b = true) : (a && b) = true := by rw [h, k]; rfl
theorem closed : joinedFacts Tryz.prog 3 Tryz.f3 Rows.topAsideSpec Rows.topAsideRow = true := by
  unfold joinedFacts
  exact jand (jand (jand (jand (jand (jand (jand (jand (jand (jand (jand (jand (jand (jand (jand (jand (jand (jand (jand (jand (jand (jand (jand (jand (jand (jand (jand (jand (jand (jand (jand j1 j2) j3) j4) j5) j6) j7) j8) j9) j10) j11) j12) j13) j14) j15) j16) j17) j18) j19) j20) j21) j22) j23) j24) j25) j26) j27) j28) j29) j30) j31) j32
end Go.Proofs.YtlhaempecidohaaGreatDoor
