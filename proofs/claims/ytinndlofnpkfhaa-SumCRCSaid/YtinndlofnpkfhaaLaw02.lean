/-
  The walk of the law SumCRC.
-/
import Derived.Test.YtinndlofnpkfhaaAwake
namespace Go.Proofs.Ytinndlofnpkfhaa
open Go.RowKit

set_option maxHeartbeats 400000 in
theorem sumCRC_walk (a0 : Option Addr) (len0 cap0 : Nat) (z0 : List Int) (w : World) (w0 : IsRow .u8 w a0 len0 cap0 z0) :
    Calls Try.prog 3 #[.slice a0 len0 cap0] w fun e w' => e = .returned (.bool true) ∧ Below w.heap.size w w' := by
  have hr := RB.of_row w0
  obtain ⟨l, hl⟩ : ∃ l, l = nats (z0.take len0) := ⟨_, rfl⟩
  rw [← hl] at hr
  clear hl w0
  by_cases hn : 20000 < len0
  · go_enter Try.func3, Try.ntmps3
    go_wp2_with fail
    refine (awake02 _).mono ?_
    rintro e w1 ⟨rfl, hb1⟩
    go_wp2_with fail
    refine (awake02 _).mono ?_
    rintro e w2 ⟨rfl, hb2⟩
    go_wp2
    go_ret
    exact ⟨rfl, hb1.trans (hb2.mono hb1.size)⟩
  · go_enter Try.func3, Try.ntmps3
    go_wp2_with fail
    refine (awake02 _).mono ?_
    rintro e w1 ⟨rfl, hb1⟩
    have hr1 := hr.below hb1
    go_wp2_with fail
    refine (crc_any _ _ _ l _ hr1 (by omega)).mono ?_
    rintro e w2 ⟨rfl, rfl⟩
    go_wp2_with fail
    refine (rcrc_any _ _ _ l _ hr1 (by omega)).mono ?_
    rintro e w2 ⟨rfl, rfl⟩
    go_wp2
    go_ret
    exact ⟨rfl, hb1⟩
end Go.Proofs.Ytinndlofnpkfhaa
