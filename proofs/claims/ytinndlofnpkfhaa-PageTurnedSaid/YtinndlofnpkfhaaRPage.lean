/-
  The reference's Page.
-/
import Derived.Test.YtinndlofnpkfhaaPut
namespace Go.Proofs.Ytinndlofnpkfhaa
open Go.RowKit

set_option maxHeartbeats 1000000 in
theorem rpage (k : Nat) (A : Option Addr) (n c : Nat) (p : List Nat) (w : World) (h : RB w A n p) (h1 : 1 ≤ k) (h2 : k ≤ 3) (h3 : n ≤ 100000) :
    Calls Try.prog 38 #[.int .i64 (k : Int), .slice A n c] w (Cloned w (n + 12) (page k p)) := by
  have hlen := h.1
  have hp := h.2.1
  have H := Lib.hid h
  have HL := Lib.hid hlen
  have hk : beb k 1 = [k] := by
    have : k % 256 = k := by omega
    simp [beb, bebTo, List.range_succ, this]
  have HK := Lib.hid hk
  have hown := Own.lit w w.heap.size #[.int .u8 112, .int .u8 97, .int .u8 103, .int .u8 (k : Int)] 4 [112, 97, 103, k] rfl rfl (by intro x hx; simp at hx; omega) (Nat.le_refl _) (by unfold maxLen; omega)
  have hb0 : Below w.heap.size w (w.alloc (.cells #[.int .u8 112, .int .u8 97, .int .u8 103, .int .u8 (k : Int)] 5)) := (Below.refl _ w).alloc (Nat.le_refl _) _
  clear h hlen hk
  go_enter Try.func38, Try.ntmps38
  go_wp2_with fail
  refine (rbytes n 4 _ (by omega) (by omega)).mono ?_
  rintro e w1 ⟨A1, c1, rfl, hown1, hb1⟩
  have hb2 := hb0.trans (hb1.mono hb0.size)
  have hown2 := hown.only (Only.of_below hb1 (fun _ => False)) (fun _ _ h => h)
  have hr1 := hown1.read
  clear hown hb0 hown1 hb1
  go_wp2_with (first | (at_builtin; refine wpList_append_rb rfl (.tmp 8) (.tmp 12) rfl rfl rfl hown2 hr1 (by omega) hb2.size ?_; intro A2 c2 w2 hown3 hon2 hbk2; have hb3 := hb2.trans (hon2.below hb2.size (fun i hi e => by have := (hown2.lt i e).1; omega)); have hr3 := H.out.below hb3) | (at_builtin; refine wpList_append_rb rfl (.tmp 14) (.tmp 15) rfl rfl rfl hown3 hr3 (by omega) hb3.size ?_; intro A3 c3 w3 hown4 hon3 hbk3; have hb4 := hb3.trans (hon3.below hb3.size (fun i hi e => by have := (hown3.lt i e).1; omega))))
  have hl4 : [112, 97, 103, k] ++ beb n 4 ++ p = pageH k p := by rw [pageH, HL.out, HK.out]; rfl
  rw [hl4] at hown4
  have hr4 := hown4.read
  clear hown2 hr1 hown3 hon2 hbk2 hr3 hon3 hbk3 hb2 hb3 hl4
  refine (rcrc_any A3 (4 + 4 + n) c3 (pageH k p) w3 hr4 (by omega)).mono ?_
  rintro e w4 ⟨rfl, rfl⟩
  have hcrc := Crc.crc_lt (pageH k p) (pageH_lt k p hp)
  go_wp2_with fail
  refine (rbytes (Crc.crc (pageH k p)) 4 w3 (by omega) (by omega)).mono ?_
  rintro e w4 ⟨A4, c4, rfl, hown5, hb5⟩
  have hown6 := hown4.only (Only.of_below hb5 (fun _ => False)) (fun _ _ h => h)
  have hr5 := hown5.read
  have hb6 := hb4.trans (hb5.mono hb4.size)
  clear hown4 hr4 hown5 hb5 hb4
  go_wp2_with (at_builtin; refine wpList_append_rb rfl _ _ rfl rfl rfl hown6 hr5 (by omega) hb6.size ?_; intro A5 c5 w5 hown7 hon7 hbk7)
  go_ret
  refine ⟨A5, c5, ?_, ?_, hb6.trans (hon7.below hb6.size (fun i hi e => by have := (hown6.lt i e).1; omega))⟩
  · have : 4 + 4 + n + 4 = n + 12 := by omega
    rw [← this]; rfl
  · have : 4 + 4 + n + 4 = n + 12 := by omega
    rw [← this]; exact hown7
end Go.Proofs.Ytinndlofnpkfhaa
