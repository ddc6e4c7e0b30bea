/-
  Package store: file, Lay.
-/
import Derived.Test.YtlhaempecidohaaGreatDoorJax
import Derived.Test.YtlhaempecidohaaGreatDoorJak
import Derived.Test.YtlhaempecidohaaGreatDoorJap
import Derived.Test.YtlhaempecidohaaGreatDoorJaq
set_option linter.unusedSimpArgs false
set_option linter.unusedVariables false
namespace Go.Proofs.YtlhaempecidohaaGreatDoor
open Go.RowKit
theorem logN_lit : ∀ i < 16, (⟨#[108, 111, 103]⟩ : ByteArray) ++ ⟨#[46]⟩ ++ ⟨((itoaB i).map UInt8.ofNat).toArray⟩ = logN i := by decide +kernel
theorem idxN_lit : ∀ i < 16, (⟨#[105, 100, 120]⟩ : ByteArray) ++ ⟨#[46]⟩ ++ ⟨((itoaB i).map UInt8.ofNat).toArray⟩ = idxN i := by decide +kernel
theorem flgN_lit : ∀ i < 16, (⟨#[102, 108, 103]⟩ : ByteArray) ++ ⟨#[46]⟩ ++ ⟨((itoaB i).map UInt8.ofNat).toArray⟩ = flgN i := by decide +kernel
theorem digs16 (i : Nat) (h : i < 16) : Lib.decDigits i = (itoaB i).map UInt8.ofNat := by
  rw [Lib.decDigits]
  unfold itoaB
  split
  · rfl
  · rw [Lib.decDigits, dif_pos (by omega : i / 10 < 10)]
    rfl
set_option maxHeartbeats 400000 in
theorem logf_any (i : Nat) (h : i < 16) (w : World) : Calls Tryz.prog 83 #[.string ⟨#[108, 111, 103]⟩, .int .i64 (i : Int)] w fun e w' => e = .returned (.string (logN i)) ∧ w' = w := by
  have hI := Tryz.strconv_Itoa_small i (by omega) w
  rw [digs16 i h] at hI
  have HL := Lib.hid (logN_lit i h)
  have hl : (itoaB i).length ≤ 2 := by unfold itoaB; split <;> simp
  generalize itoaB i = l at hI HL hl
  have HI := Lib.hid hI
  clear hI
  obtain ⟨s, hs⟩ : ∃ s : ByteArray, s = ⟨(l.map UInt8.ofNat).toArray⟩ := ⟨_, rfl⟩
  have hsz : s.size ≤ 2 := by rw [hs]; show (l.map UInt8.ofNat).toArray.size ≤ 2; simpa using hl
  rw [← hs] at HI HL
  clear hs
  go_enter Tryz.func83, Tryz.ntmps83
  go_wp2_with fail
  refine HI.out.mono ?_
  rintro e w1 ⟨rfl, rfl⟩
  go_wp2_with fail
  go_ret
  exact ⟨by rw [← HL.out]; rfl, rfl⟩
set_option maxHeartbeats 400000 in
theorem idxf_any (i : Nat) (h : i < 16) (w : World) : Calls Tryz.prog 83 #[.string ⟨#[105, 100, 120]⟩, .int .i64 (i : Int)] w fun e w' => e = .returned (.string (idxN i)) ∧ w' = w := by
  have hI := Tryz.strconv_Itoa_small i (by omega) w
  rw [digs16 i h] at hI
  have HL := Lib.hid (idxN_lit i h)
  have hl : (itoaB i).length ≤ 2 := by unfold itoaB; split <;> simp
  generalize itoaB i = l at hI HL hl
  have HI := Lib.hid hI
  clear hI
  obtain ⟨s, hs⟩ : ∃ s : ByteArray, s = ⟨(l.map UInt8.ofNat).toArray⟩ := ⟨_, rfl⟩
  have hsz : s.size ≤ 2 := by rw [hs]; show (l.map UInt8.ofNat).toArray.size ≤ 2; simpa using hl
  rw [← hs] at HI HL
  clear hs
  go_enter Tryz.func83, Tryz.ntmps83
  go_wp2_with fail
  refine HI.out.mono ?_
  rintro e w1 ⟨rfl, rfl⟩
  go_wp2_with fail
  go_ret
  exact ⟨by rw [← HL.out]; rfl, rfl⟩
set_option maxHeartbeats 400000 in
theorem flgf_any (i : Nat) (h : i < 16) (w : World) : Calls Tryz.prog 83 #[.string ⟨#[102, 108, 103]⟩, .int .i64 (i : Int)] w fun e w' => e = .returned (.string (flgN i)) ∧ w' = w := by
  have hI := Tryz.strconv_Itoa_small i (by omega) w
  rw [digs16 i h] at hI
  have HL := Lib.hid (flgN_lit i h)
  have hl : (itoaB i).length ≤ 2 := by unfold itoaB; split <;> simp
  generalize itoaB i = l at hI HL hl
  have HI := Lib.hid hI
  clear hI
  obtain ⟨s, hs⟩ : ∃ s : ByteArray, s = ⟨(l.map UInt8.ofNat).toArray⟩ := ⟨_, rfl⟩
  have hsz : s.size ≤ 2 := by rw [hs]; show (l.map UInt8.ofNat).toArray.size ≤ 2; simpa using hl
  rw [← hs] at HI HL
  clear hs
  go_enter Tryz.func83, Tryz.ntmps83
  go_wp2_with fail
  refine HI.out.mono ?_
  rintro e w1 ⟨rfl, rfl⟩
  go_wp2_with fail
  go_ret
  exact ⟨by rw [← HL.out]; rfl, rfl⟩
theorem newN_right : rightN newN = true := by decide +kernel
set_option maxRecDepth 8000 in
set_option maxHeartbeats 1000000 in
theorem lay_any {w : World} {g m cap : Nat} {F : DiskF} (h : DiskS w g m cap F) {s : ByteArray} (hs : rightN s = true) (hsn : s ≠ newN) (hnew : AL.get F newN = none) {A : Option Addr} {n c : Nat} {l : List Nat} (hl : RB w A n l) (hc : n ≤ c) (hfit : F.total + n ≤ cap) :
    Calls Tryz.prog 41 #[.pointer (some ⟨g, 0, none⟩), .string s, .slice A n c] w (Changed w g m cap F s (some (safeF l))) := by
  have hR := remove_no h (s := newN) (by decide) hnew
  have H := Lib.hid h
  have HN := Lib.hid hnew
  have HL := Lib.hid hl
  have HR := Lib.hid hR
  have HS := Lib.hid hs
  have HSN := Lib.hid hsn
  clear h hnew hl hR hs hsn
  unfold newN at HR
  go_enter Tryz.func41, Tryz.ntmps41
  go_wp2_with fail
  refine HR.out.mono ?_
  rintro e w1 ⟨rfl, hb1⟩
  have HD1 := Lib.hid (H.out.below hb1)
  have HB1 := Lib.hid hb1
  have hA := append_any (H.out.below hb1) newN_right (HL.out.below hb1) hc hfit
  unfold newN at hA
  have HA := Lib.hid hA
  clear hb1 hA HR
  go_wp2_with fail
  refine HA.out.mono ?_
  rintro e w2 ⟨rfl, F2, hd2, hu2, ho2⟩
  have hg2 : AL.get F2 newN = some ⟨l, 0, false⟩ := by
    have := Upd.same hu2
    rw [show AL.get F ⟨#[110, 101, 119]⟩ = none from HN.out] at this
    exact this
  have hS := sync_any hd2 (s := newN) (by decide) hg2
  unfold newN at hS
  have HD2 := Lib.hid hd2
  have HU2 := Lib.hid hu2
  have HO2 := Lib.hid ho2
  have HSY := Lib.hid hS
  clear hd2 hu2 ho2 hg2 hS HA
  go_wp2_with fail
  refine HSY.out.mono ?_
  rintro e w3 ⟨rfl, F3, hd3, hu3, ho3⟩
  have hg3 : AL.get F3 newN = some (safeF l) := Upd.same hu3
  have hRN := rename_any hd3 (a := newN) (b := s) (by decide) HS.out (fun e => HSN.out e.symm) hg3
  unfold newN at hRN
  have HU3 := Lib.hid hu3
  have HO3 := Lib.hid ho3
  have HG3 := Lib.hid hg3
  have HRN := Lib.hid hRN
  clear hd3 hu3 ho3 hg3 hRN HSY
  go_wp2_with fail
  refine HRN.out.mono ?_
  rintro e w4 ⟨rfl, F4, hd4, hm4, ho4⟩
  have HD4 := Lib.hid hd4
  have HM4 := Lib.hid hm4
  have HO4 := Lib.hid (((Only.of_below HB1.out (DB g m)).trans HO2.out (fun _ _ h => h)).trans ((HO3.out.trans ho4 (fun _ _ h => h))) (fun _ _ h => h))
  clear hd4 hm4 ho4
  go_wp2_with fail
  go_ret
  refine ⟨rfl, F4, HD4.out, fun t => ?_, HO4.out⟩
  rw [show AL.get F4 t = _ from HM4.out t]
  by_cases h1 : t = newN
  · subst h1
    rw [if_pos (show newN = ⟨#[110, 101, 119]⟩ from rfl), if_neg (fun e => HSN.out e.symm)]
    exact HN.out.symm
  · rw [if_neg (show ¬ t = ⟨#[110, 101, 119]⟩ from h1)]
    by_cases h2 : t = s
    · rw [if_pos h2, if_pos h2]; exact HG3.out
    · rw [if_neg h2, if_neg h2, HU3.out t, if_neg (show ¬ t = ⟨#[110, 101, 119]⟩ from h1), HU2.out t, if_neg (show ¬ t = ⟨#[110, 101, 119]⟩ from h1)]
end Go.Proofs.YtlhaempecidohaaGreatDoor
