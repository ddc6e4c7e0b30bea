/-
  The walk of the law FrameScans.
-/
import Derived.Test.YtinndlofnpkfhaaSame
import Derived.Test.YtinndlofnpkfhaaRScan
namespace Go.Proofs.Ytinndlofnpkfhaa
open Go.RowKit

set_option maxRecDepth 8000 in
set_option maxHeartbeats 1000000 in
theorem frameScans_walk (a0 : Option Addr) (len0 cap0 : Nat) (z0 : List Int) (w : World) (w0 : IsRow .u8 w a0 len0 cap0 z0) (m : Int) (hm : w.cell? ⟨0, 0, none⟩ = some (.int .i64 m)) :
    Calls Try.prog 13 #[.slice a0 len0 cap0] w fun e w' => e = .returned (.bool true) ∧ Below w.heap.size w w' := by
  have hr := RB.of_row w0
  have hle : len0 ≤ cap0 := by
    rcases w0 with ⟨rfl, rfl, rfl, rfl⟩ | ⟨x, rfl, hl, _⟩
    · omega
    · exact hl
  obtain ⟨l, hl⟩ : ∃ l, l = nats (z0.take len0) := ⟨_, rfl⟩
  rw [← hl] at hr
  clear hl w0
  by_cases hn : 20000 < len0
  · clear hr
    go_enter Try.func13, Try.ntmps13
    go_wp2_with fail
    refine (awake04 _).mono ?_
    rintro e w1 ⟨rfl, hb1⟩
    go_wp2_with fail
    refine (awake04 _).mono ?_
    rintro e w2 ⟨rfl, hb2⟩
    go_wp2
    go_ret
    exact ⟨rfl, hb1.trans (hb2.mono hb1.size)⟩
  · have H := Lib.hid hr
    have HM := Lib.hid hm
    have hd20 : decide (20000 < (len0 : Int)) = false := by simp; omega
    clear hr hm
    go_enter Try.func13, Try.ntmps13
    go_wp2_with fail
    refine (awake04 _).mono ?_
    rintro e w1 ⟨rfl, hb1⟩
    go_wp2_with fail
    refine (scan_any a0 len0 cap0 l m w1 (H.out.below hb1) hle (by omega) (cell_later hb1 HM.out)).mono ?_
    rintro e w2 ⟨A2, m2, c2, es, rfl, hrec2, hes, hb2⟩
    have hb12 := hb1.trans (hb2.mono hb1.size)
    go_wp2_with fail
    refine (rscan_any a0 len0 cap0 l w2 (H.out.below hb12) hle (by omega)).mono ?_
    rintro e w3 ⟨A3, m3, c3, fs, rfl, hrec3, hfs, hb3⟩
    have hb13 := hb12.trans (hb3.mono hb12.size)
    have h2 := (hrec2.below hb3).read
    have hmx := hrec2.max
    have h3 := hrec3.read
    clear hrec2 hrec3 hb1 hb2 hb12
    go_wp2_with fail
    refine (same_any A2 m2 c2 A3 m3 c3 es fs w3 h2 h3 (by rw [hes, hfs]) hmx).mono ?_
    rintro e w4 ⟨rfl, hb4⟩
    have hfin := hb13.trans (hb4.mono hb13.size)
    clear h2 h3 hes hfs hb3 hb13 hb4
    go_wp2
    go_ret
    exact ⟨by simp, hfin⟩
end Go.Proofs.Ytinndlofnpkfhaa
