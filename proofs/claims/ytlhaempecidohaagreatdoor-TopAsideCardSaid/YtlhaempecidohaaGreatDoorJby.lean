/-
  The arguments that came in, and the listed variables: what the walk of the law asks of them.
-/
import Derived.OpenShut
import Derived.ShutString
import Derived.ChangeOld
import Derived.Below
import Derived.SizedLaws
import Derived.Test.YtlhaempecidohaaGreatDoorJbv
import Derived.Test.YtlhaempecidohaaGreatDoorJbw
import Derived.Test.YtlhaempecidohaaGreatDoorJaz
set_option linter.unusedSimpArgs false
set_option linter.unusedVariables false
namespace Go.Proofs.YtlhaempecidohaaGreatDoor
open Go.RowKit
open Go.ChangeShapes Go.WideShapes Go.ChangeAt
section
variable {H : Type} {enc : TypeId × Value → H} {w : World} {held : Bool} {bs : Nat}
set_option maxRecDepth 100000 in
theorem arg_runs {v : Value} {d : DataW H} {p : List MemPlace} (hv : Value.okWide Tryz.prog w .any bs 22 v) (h : DataW.Trod enc Tryz.prog w 0 (fun _ => true) held 22 v d p) (hw : ∀ m ∈ d.weights Tryz.prog 22, m ≤ reachBytes) :
    ∃ (A : Option Addr) (n c : Nat) (os : List OpS), v = .slice A n c ∧ RunsR w A n os := by
  obtain ⟨A, n, c, rfl⟩ := okWide_slice Tryz.underlying22 hv
  obtain ⟨fuel, hf⟩ := h
  obtain ⟨A', n', c', os, e, hr⟩ := open_runs hf hw
  simp [Value.cells] at e
  obtain ⟨rfl, rfl, rfl⟩ := e
  exact ⟨A, n, c, os, rfl, hr⟩
set_option maxRecDepth 100000 in
theorem arg_bytes {v : Value} {d : DataW H} {p : List MemPlace} (hv : Value.okWide Tryz.prog w .any bs 23 v) (h : DataW.Trod enc Tryz.prog w 0 (fun _ => true) held 23 v d p) (hw : ∀ m ∈ d.weights Tryz.prog 23, m ≤ reachBytes) :
    ∃ (A : Option Addr) (n c : Nat) (l : List Nat), v = .slice A n c ∧ RB w A n l ∧ n ≤ c ∧ n ≤ 140737488355328 := by
  obtain ⟨A, n, c, rfl⟩ := okWide_slice Tryz.underlying23 hv
  obtain ⟨fuel, hf⟩ := h
  obtain ⟨a, len, cap, zs, e, h1, h2, h3, h4, h5⟩ := open_nums Tryz.underlying23 Tryz.underlying5 k5 b5 (Nat.le_refl _) hf hw
  simp [Value.cells] at e
  obtain ⟨rfl, rfl, rfl⟩ := e
  exact ⟨A, n, c, _, rfl, RB.of_nums h2 h4 h5, h1, h3⟩
set_option maxRecDepth 100000 in
theorem arg_bool {v : Value} {d : DataW H} {p : List MemPlace} (hv : Value.okWide Tryz.prog w .any bs 4 v) (h : DataW.Trod enc Tryz.prog w 0 (fun _ => true) held 4 v d p) :
    ∃ b : Bool, v = .bool b ∧ d = .lit (.bool b) ∧ p = [] := by
  obtain ⟨b, rfl⟩ := okWide_bool und4b hv
  obtain ⟨fuel, hf⟩ := h
  obtain ⟨b', e, hx⟩ := DataW.trod_bool und4b hf
  simp [Value.cells] at e
  injection hx with h1 h2
  exact ⟨b, rfl, by rw [h1, e], h2⟩
end
end Go.Proofs.YtlhaempecidohaaGreatDoor
