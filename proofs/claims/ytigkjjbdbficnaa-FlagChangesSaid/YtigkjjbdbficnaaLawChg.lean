/-
  The walk of the law FlagChanges.
-/
import Derived.Test.YtigkjjbdbficnaaChg
import Derived.Test.YtigkjjbdbficnaaPrint
namespace Go.Proofs.Ytigkjjbdbficnaa
open Go.RowKit

set_option maxHeartbeats 1000000 in
theorem flagChanges_walk (a0 : Int) (a1 : Int) (a2 : Int) (w : World) (_w0 : (Lit.int .i64 a0).wf = true) (_w1 : (Lit.int .i64 a1).wf = true) (_w2 : (Lit.int .i64 a2).wf = true) :
    Calls Try.prog 3 #[.int .i64 a0, .int .i64 a1, .int .i64 a2] w fun e w' => e = .returned (.bool true) ∧ Below w.heap.size w w' := by
  clear _w0 _w1 _w2
  have hlt := chg_lt (lo a0) (lo a1) a2 (lo_lt a0) (lo_lt a1)
  have h2 : ∀ W : World, Calls Try.prog 7 #[.int .i64 ((chg (lo a0) (lo a1) a2 : Nat) : Int), .int .i64 a1, .int .i64 a2] W fun e w' => e = .returned (.int .i64 ((chg (lo a0) (lo a1) a2 : Nat) : Int)) ∧ W = w' := by
    intro W
    have := change_any ((chg (lo a0) (lo a1) a2 : Nat) : Int) a1 a2 W
    rw [lo_cast _ hlt, chg_chg _ _ _ (lo_lt a0) (lo_lt a1)] at this
    exact this
  have H2 := Lib.hid h2
  have H1 := Lib.hid (fun W => change_any a0 a1 a2 W)
  have H3 := Lib.hid (fun W => changed_any a0 a1 a2 W)
  generalize chg (lo a0) (lo a1) a2 = r at *
  clear h2
  go_enter Try.func3, Try.ntmps3
  go_wp2_with fail
  refine (awake08 w).mono ?_
  rintro e w1 ⟨rfl, hb⟩
  go_wp2_with fail
  refine (H1.out w1).mono ?_
  rintro e w2 ⟨rfl, rfl⟩
  go_wp2_with fail
  refine (H3.out w1).mono ?_
  rintro e w2 ⟨rfl, rfl⟩
  go_wp2_with fail
  refine (H2.out w1).mono ?_
  rintro e w2 ⟨rfl, rfl⟩
  go_wp2
  go_ret
  exact ⟨by simp, hb⟩
end Go.Proofs.Ytigkjjbdbficnaa
