/-
  The walks of the laws PageWrites, PageReads.
-/
import Derived.Test.YtinndlofnpkfhaaRPage
import Derived.Deep.RegionHeld
import Derived.Deep.DrawnRows
namespace Go.Proofs.Ytinndlofnpkfhaa
open Go.RowKit
attribute [local go_sem ↓] Go.wp_at_zero Go.wp_at_succ

set_option maxHeartbeats 1000000 in
theorem pageReads_walk (a0 : Int) (a1 : Option Addr) (len1 cap1 : Nat) (z1 : List Int) (w : World) (_w0 : (Lit.int .i64 a0).wf = true) (w1 : IsRow .u8 w a1 len1 cap1 z1) :
    Calls Try.prog 8 #[.int .i64 a0, .slice a1 len1 cap1] w fun e w' => e = .returned (.bool true) ∧ Below w.heap.size w w' := by
  have hr := RB.of_row w1
  have hle : len1 ≤ cap1 := by
    rcases w1 with ⟨rfl, rfl, rfl, rfl⟩ | ⟨x, rfl, hl, _⟩
    · omega
    · exact hl
  obtain ⟨l, hl⟩ : ∃ l, l = nats (z1.take len1) := ⟨_, rfl⟩
  rw [← hl] at hr
  clear hl w1 _w0
  by_cases hn : 20000 < len1
  · clear hr
    go_enter Try.func8, Try.ntmps8
    go_wp2_with fail
    refine (awake05 _).mono ?_
    rintro e w1 ⟨rfl, hb1⟩
    go_wp2_with fail
    refine (awake05 _).mono ?_
    rintro e w2 ⟨rfl, hb2⟩
    go_wp2
    go_ret
    exact ⟨rfl, hb1.trans (hb2.mono hb1.size)⟩
  · have H := Lib.hid hr
    have hp := hr.1
    clear hr
    by_cases hpg : isPage a0 l
    · obtain ⟨p1, p2, p3, p4, p5⟩ := id hpg
      obtain ⟨k, rfl⟩ := Int.eq_ofNat_of_zero_le (show 0 ≤ a0 by omega)
      rw [Int.toNat_natCast] at p5
      have P := Lib.hid p5
      have P0 := Lib.hid hpg
      clear p5 hpg
      have t1 : decide (1 ≤ (k : Int)) = true := by simp; omega
      have t2 : decide ((k : Int) ≤ 3) = true := by simp; omega
      go_enter Try.func8, Try.ntmps8
      go_wp2_with fail
      refine (awake05 _).mono ?_
      rintro e w1 ⟨rfl, hb1⟩
      go_wp2_with fail
      refine (get_ok k a1 len1 cap1 l w1 (H.out.below hb1) hle (by omega) P0.out).mono ?_
      rintro e w2 ⟨A, m, c, rfl, hown, hb2⟩
      have hb3 := hb1.trans (hb2.mono hb1.size)
      have hr2 := hown.read
      have hm := hr2.1
      have hr2' : RB w2.drew A m (payload l) := hr2
      have hb3' := hb3.drew
      have hk1 := conv_rb (H.out.below hb3') cap1
      clear hown hb2 hr2
      go_wp2_with fail
      go_region_held (fun w' => (convert 22 9 (.slice a1 len1 cap1)).run Try.prog w' = .ok (.string (str l)) w')
        (first | exact hk1 | exact hk3)
        ((go_at_call 38; refine (rpage k A m c (payload l) w2.drew hr2' (by omega) (by omega) (by omega)).mono ?_; rintro e w3 ⟨A3, c3, rfl, hown3, hb4⟩; have hk2 := conv_rb hown3.read c3; rw [P.out] at hk2; have hk3 := conv_rb (H.out.below (hb3'.trans (hb4.mono hb3'.size))) cap1))
      go_wp2
      go_ret
      exact ⟨by simp, hb3'.trans (hb4.mono hb3'.size)⟩
    · have P0 := Lib.hid hpg
      clear hpg
      go_enter Try.func8, Try.ntmps8
      go_wp2_with fail
      refine (awake05 _).mono ?_
      rintro e w1 ⟨rfl, hb1⟩
      go_wp2_with fail
      refine (get_bad a0 a1 len1 cap1 l w1 (H.out.below hb1) hle (by omega) P0.out).mono ?_
      rintro e w2 ⟨A, m, c, rfl, hown, hb2⟩
      obtain rfl : m = 0 := hown.1.symm
      have hb3 := hb1.trans (hb2.mono hb1.size)
      clear hown hb2
      go_wp2
      go_ret
      exact ⟨rfl, hb3⟩

set_option maxHeartbeats 1000000 in
theorem pageWrites_walk (a0 : Int) (a1 : Option Addr) (len1 cap1 : Nat) (z1 : List Int) (w : World) (_w0 : (Lit.int .i64 a0).wf = true) (w1 : IsRow .u8 w a1 len1 cap1 z1) :
    Calls Try.prog 7 #[.int .i64 a0, .slice a1 len1 cap1] w fun e w' => e = .returned (.bool true) ∧ Below w.heap.size w w' := by
  have hr := RB.of_row w1
  obtain ⟨l, hl⟩ : ∃ l, l = nats (z1.take len1) := ⟨_, rfl⟩
  rw [← hl] at hr
  have hwf := bounds_i64 _w0
  clear hl w1 _w0
  by_cases hn : 70000 < len1
  · clear hr
    go_enter Try.func7, Try.ntmps7
    go_wp2_with fail
    refine (awake05 _).mono ?_
    rintro e w1 ⟨rfl, hb1⟩
    go_wp2_with fail
    refine (awake05 _).mono ?_
    rintro e w2 ⟨rfl, hb2⟩
    go_wp2
    go_ret
    exact ⟨rfl, hb1.trans (hb2.mono hb1.size)⟩
  · have H := Lib.hid hr
    have hlen := hr.1
    have hlt := hr.2.1
    clear hr
    by_cases hk1 : a0 < 1
    · go_enter Try.func7, Try.ntmps7
      go_wp2_with fail
      refine (awake05 _).mono ?_
      rintro e w1 ⟨rfl, hb1⟩
      go_wp2_with fail
      refine (put_arg a0 a1 len1 cap1 w1 (.inl hk1)).mono ?_
      rintro e w2 ⟨A, m, c, rfl, hown, hb2⟩
      obtain rfl : m = 0 := hown.1.symm
      clear hown
      go_wp2
      go_ret
      exact ⟨rfl, hb1.trans (hb2.mono hb1.size)⟩
    · by_cases hk3 : 3 < a0
      · go_enter Try.func7, Try.ntmps7
        go_wp2_with fail
        refine (awake05 _).mono ?_
        rintro e w1 ⟨rfl, hb1⟩
        go_wp2_with fail
        refine (put_arg a0 a1 len1 cap1 w1 (.inr hk3)).mono ?_
        rintro e w2 ⟨A, m, c, rfl, hown, hb2⟩
        obtain rfl : m = 0 := hown.1.symm
        clear hown
        go_wp2
        go_ret
        exact ⟨rfl, hb1.trans (hb2.mono hb1.size)⟩
      · by_cases hlong : 60000 < len1
        · go_enter Try.func7, Try.ntmps7
          go_wp2_with fail
          refine (awake05 _).mono ?_
          rintro e w1 ⟨rfl, hb1⟩
          go_wp2_with fail
          refine (put_long a0 a1 len1 cap1 w1 (by omega) (by omega) hlong).mono ?_
          rintro e w2 ⟨A, m, c, rfl, hown, hb2⟩
          obtain rfl : m = 0 := hown.1.symm
          clear hown
          go_wp2
          go_ret
          exact ⟨rfl, hb1.trans (hb2.mono hb1.size)⟩
        · obtain ⟨k, rfl⟩ := Int.eq_ofNat_of_zero_le (show 0 ≤ a0 by omega)
          have t1 : decide ((k : Int) < 1) = false := by simp; omega
          have t2 : decide (3 < (k : Int)) = false := by simp; omega
          obtain ⟨k2, hk2⟩ : ∃ k2 : Nat, k2 = k % 3 + 1 := ⟨_, rfl⟩
          have e2 : (k : Int) % 3 + 1 = (k2 : Int) := by omega
          have P1 := Lib.hid (page_isPage k l (by omega) (by omega) (by omega))
          have P2 := Lib.hid (page_other k k2 l (by omega) (by omega) (by omega))
          have hplt := page_lt k l hlt
          have hppl := payload_page k l
          have HP := Lib.hid hppl
          clear hk2 hppl
          go_enter Try.func7, Try.ntmps7
          go_wp2_with fail
          refine (awake05 _).mono ?_
          rintro e w1 ⟨rfl, hb1⟩
          go_wp2_with fail
          refine (put_ok k a1 len1 cap1 l w1 (H.out.below hb1) (by omega) (by omega) (by omega)).mono ?_
          rintro e w2 ⟨A, m, c, rfl, hown, hb2⟩
          have hb3 := hb1.trans (hb2.mono hb1.size)
          have hr2 := hown.read
          have hmc := hown.le
          obtain rfl : m = len1 + 12 := by rw [← hown.1, page_length, hlen]
          clear hown hb1 hb2
          go_wp2_with fail
          refine (get_ok k A (len1 + 12) c (page k l) w2 hr2 hmc (by omega) P1.out).mono ?_
          rintro e w3 ⟨A3, m3, c3, rfl, hown3, hb4⟩
          rw [HP.out] at hown3
          have hr3 := hown3.read
          have hr23 := hr2.below hb4
          have hb5 := hb3.trans (hb4.mono hb3.size)
          clear hown3 hr2 hb3 hb4
          go_wp2_with fail
          refine (get_bad k2 A (len1 + 12) c (page k l) w3 hr23 hmc (by omega) P2.out).mono ?_
          rintro e w4 ⟨A4, m4, c4, rfl, hown4, hb6⟩
          have hr24 : RB w4.drew A (len1 + 12) (page k l) := hr23.below hb6.drew
          have hr34 : RB w4.drew A3 m3 l := hr3.below hb6.drew
          have hb7 : Below w.heap.size w w4.drew := (hb5.trans (hb6.mono hb5.size)).drew
          have hr14 := H.out.below hb7
          have q1 := conv_rb hr24 c
          have q2 := conv_rb hr34 c3
          have q3 := conv_rb hr14 cap1
          clear hown4 hb5 hb6 hr23 hr3
          go_wp2_with fail
          go_region_held (fun w' => (convert 22 9 (.slice A (len1 + 12) c)).run Try.prog w' = .ok (.string (str (page k l))) w' ∧ (convert 22 9 (.slice A3 m3 c3)).run Try.prog w' = .ok (.string (str l)) w' ∧ (convert 22 9 (.slice a1 len1 cap1)).run Try.prog w' = .ok (.string (str l)) w')
            (first | exact ⟨q1, q2, q3⟩ | exact ⟨r1, r2, r3⟩)
            ((go_at_call 38; refine (rpage k a1 len1 cap1 l w4.drew hr14 (by omega) (by omega) (by omega)).mono ?_; rintro e w5 ⟨A5, c5, rfl, hown5, hb8⟩; have r0 := conv_rb hown5.read c5; have r1 := conv_rb (hr24.below hb8) c; have r2 := conv_rb (hr34.below hb8) c3; have r3 := conv_rb (hr14.below hb8) cap1))
          go_wp2
          go_ret
          exact ⟨by simp, hb7.trans (hb8.mono hb7.size)⟩
end Go.Proofs.Ytinndlofnpkfhaa
