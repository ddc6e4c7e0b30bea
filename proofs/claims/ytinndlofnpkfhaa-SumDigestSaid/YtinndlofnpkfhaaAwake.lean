/-
  The statements' own 'awake' of layer 2: it is true.
-/
import Derived.Test.YtinndlofnpkfhaaSumRef
namespace Go.Proofs.Ytinndlofnpkfhaa
open Go.RowKit

set_option maxHeartbeats 400000 in
theorem awake02 (w : World) : Calls Try.prog 16 #[] w fun e w' => e = .returned (.bool true) ∧ Below w.heap.size w w' := by
  have kc := fun (w : World) (C : Array Value) (n c : Nat) => Lib.run_convert_bytes_const (P := Try.prog) w 22 5 C n c Try.underlying22 Try.underlying5
  go_enter Try.func16, Try.ntmps16
  go_wp2_with fail
  refine (crc_any _ 9 9 [49, 50, 51, 52, 53, 54, 55, 56, 57] _ (RB.new w _ 5 _ [49, 50, 51, 52, 53, 54, 55, 56, 57] rfl (by decide)) (by decide)).mono ?_
  rintro e w' ⟨rfl, rfl⟩
  rw [Crc.known]
  go_wp2
  go_ret
  exact ⟨rfl, (Below.refl _ _).alloc (Nat.le_refl _) _⟩
end Go.Proofs.Ytinndlofnpkfhaa
