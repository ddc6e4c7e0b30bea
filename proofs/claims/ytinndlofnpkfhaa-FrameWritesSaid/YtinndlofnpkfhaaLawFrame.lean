/-
  The walk of the law FrameWrites.
-/
import Derived.Test.YtinndlofnpkfhaaRFrame
import Derived.Deep.RegionHeld
import Derived.Deep.DrawnRows
namespace Go.Proofs.Ytinndlofnpkfhaa
open Go.RowKit
attribute [local go_sem ↓] Go.wp_at_zero Go.wp_at_succ

set_option maxRecDepth 8000 in
set_option maxHeartbeats 1000000 in
theorem frameWrites_walk (a0 : Int) (a1 : Option Addr) (len1 cap1 : Nat) (z1 : List Int) (w : World) (_w0 : (Lit.int .i64 a0).wf = true) (w1 : IsRow .u8 w a1 len1 cap1 z1) :
    Calls Try.prog 12 #[.int .i64 a0, .slice a1 len1 cap1] w fun e w' => e = .returned (.bool true) ∧ Below w.heap.size w w' := by
  have hr := RB.of_row w1
  obtain ⟨l, hl⟩ : ∃ l, l = nats (z1.take len1) := ⟨_, rfl⟩
  rw [← hl] at hr
  clear hl w1 _w0
  by_cases hn : 40000 < len1
  · clear hr
    go_enter Try.func12, Try.ntmps12
    go_wp2_with fail
    refine (awake04 _).mono ?_
    rintro e w1 ⟨rfl, hb1⟩
    go_wp2_with fail
    refine (awake04 _).mono ?_
    rintro e w2 ⟨rfl, hb2⟩
    go_wp2
    go_ret
    exact ⟨rfl, hb1.trans (hb2.mono hb1.size)⟩
  · have H := Lib.hid hr
    have hlen := hr.1
    have hlt := hr.2.1
    clear hr
    by_cases hk1 : a0 < 1
    · go_enter Try.func12, Try.ntmps12
      go_wp2_with fail
      refine (awake04 _).mono ?_
      rintro e w1 ⟨rfl, hb1⟩
      go_wp2_with fail
      refine (frame_arg a0 a1 len1 cap1 w1 (.inl hk1)).mono ?_
      rintro e w2 ⟨A, m, c, rfl, hown, hb2⟩
      obtain rfl : m = 0 := hown.1.symm
      clear hown
      go_wp2
      go_ret
      exact ⟨rfl, hb1.trans (hb2.mono hb1.size)⟩
    · by_cases hk3 : 3 < a0
      · go_enter Try.func12, Try.ntmps12
        go_wp2_with fail
        refine (awake04 _).mono ?_
        rintro e w1 ⟨rfl, hb1⟩
        go_wp2_with fail
        refine (frame_arg a0 a1 len1 cap1 w1 (.inr hk3)).mono ?_
        rintro e w2 ⟨A, m, c, rfl, hown, hb2⟩
        obtain rfl : m = 0 := hown.1.symm
        clear hown
        go_wp2
        go_ret
        exact ⟨rfl, hb1.trans (hb2.mono hb1.size)⟩
      · by_cases hlong : 30000 < len1
        · go_enter Try.func12, Try.ntmps12
          go_wp2_with fail
          refine (awake04 _).mono ?_
          rintro e w1 ⟨rfl, hb1⟩
          go_wp2_with fail
          refine (frame_long a0 a1 len1 cap1 w1 (by omega) (by omega) hlong).mono ?_
          rintro e w2 ⟨A, m, c, rfl, hown, hb2⟩
          obtain rfl : m = 0 := hown.1.symm
          clear hown
          go_wp2
          go_ret
          exact ⟨rfl, hb1.trans (hb2.mono hb1.size)⟩
        · obtain ⟨k, rfl⟩ := Int.eq_ofNat_of_zero_le (show 0 ≤ a0 by omega)
          have t1 : decide ((k : Int) < 1) = false := by simp; omega
          have t2 : decide (3 < (k : Int)) = false := by simp; omega
          go_enter Try.func12, Try.ntmps12
          go_wp2_with fail
          refine (awake04 _).mono ?_
          rintro e w1 ⟨rfl, hb1⟩
          go_wp2_with fail
          refine (frame_ok k a1 len1 cap1 l w1 (H.out.below hb1) (by omega) (by omega) (by omega)).mono ?_
          rintro e w2 ⟨A, m, c, rfl, hown, hb2⟩
          have hb3 := hb1.trans (hb2.mono hb1.size)
          have hr2 : RB w2.drew A m (frameB k l) := hown.read
          have hb3' := hb3.drew
          have q1 := conv_rb hr2 c
          have hr14 := H.out.below hb3'
          clear hown hb1 hb2
          go_wp2_with fail
          go_region_held (fun w' => (convert 22 9 (.slice A m c)).run Try.prog w' = .ok (.string (str (frameB k l))) w')
            (first | exact q1 | exact r1)
            ((go_at_call 44; refine (rframe k a1 len1 cap1 l w2.drew hr14 (by omega) (by omega) (by omega)).mono ?_; rintro e w5 ⟨A5, c5, rfl, hown5, hb8⟩; have r0 := conv_rb hown5.read c5; have r1 := conv_rb (hr2.below hb8) c))
          go_wp2
          go_ret
          exact ⟨by simp, hb3'.trans (hb8.mono hb3'.size)⟩
end Go.Proofs.Ytinndlofnpkfhaa
