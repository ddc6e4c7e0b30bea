/-
  Package frame: head.
-/
import Derived.OwnWalk
import Derived.Test.YtlhaempecidohaaGreatDoorJaa
import Derived.Test.YtlhaempecidohaaGreatDoorJag
import Derived.Test.YtlhaempecidohaaGreatDoorJac
import Derived.Test.YtlhaempecidohaaGreatDoorJae
import Derived.Test.YtlhaempecidohaaGreatDoorJaj
set_option linter.unusedSimpArgs false
set_option linter.unusedVariables false
namespace Go.Proofs.YtlhaempecidohaaGreatDoor
open Go.RowKit
/-- what head hands back -/
def Told (w : World) (r : Option (Nat × Nat)) (e : Ending) (w' : World) : Prop :=
  ∃ (x y : Int) (f : Bool), e = .returned (.tuple #[.int .i64 x, .int .i64 y, .bool f]) ∧ (∀ k n, r = some (k, n) → x = (k : Int) ∧ y = (n : Int) ∧ f = true) ∧ (r = none → f = false) ∧ Below w.heap.size w w'
theorem cub_str : str [99, 117, 98] = ⟨#[99, 117, 98]⟩ := rfl
attribute [local irreducible] Calls in
set_option maxRecDepth 8000 in
set_option maxHeartbeats 1000000 in
theorem head_any (A : Option Addr) (n c : Nat) (b : List Nat) (w : World) (hb : RB w A n b) (hc : n ≤ c) (hn : n ≤ 10000000) :
    Calls Tryz.prog 148 #[.slice A n c] w (Told w (hd b)) := by
  have hlen := hb.1
  by_cases hs : n < 44
  · have hd0 := hd_none_short (b := b) (by omega)
    rw [hd0]
    clear hb hlen hd0
    go_enter Tryz.func148, Tryz.ntmps148
    go_wp2
    go_ret3
    exact ⟨0, 0, false, rfl, (fun _ _ h => by cases h), fun _ => rfl, Below.refl _ _⟩
  · have sh3 : ∀ w', (Instr.slice 23 (.slice A n c) none (some (.int .i64 3)) none).run Tryz.prog w' = .ok (.slice A 3 c) w' := slice_h A n c 3 (by omega)
    have hr3 := hb.take (k := 3) (by omega)
    have k3 := conv_rb hr3 c
    have hd44 : decide ((n : Int) < 44) = false := by simp; omega
    by_cases hcub : b.take 3 = [99, 117, 98]
    · rw [hcub, cub_str] at k3
      have sh8 : ∀ w', (Instr.slice 23 (.slice A n c) none (some (.int .i64 8)) none).run Tryz.prog w' = .ok (.slice A 8 c) w' := slice_h A n c 8 (by omega)
      have s344 : ∀ w', (Instr.slice 23 (.slice A n c) (some (.int .i64 3)) (some (.int .i64 44)) none).run Tryz.prog w' = .ok (.slice (cut A c 3) 41 (c - 3)) w' := slice_lh A n c 3 44 (by omega) (by omega)
      have hm := hb.mid (lo := 3) (hi := 44) (cap := c) (by omega) (by omega) hc
      have hm' : RB w (cut A c 3) 41 ((b.drop 3).take 41) := hm
      have hb8 := hb.take (k := 8) (by omega)
      obtain ⟨kd, hkd⟩ : ∃ k, k = num ((b.drop 3).take 1) := ⟨_, rfl⟩
      obtain ⟨m, hmm⟩ : ∃ k, k = num ((b.drop 4).take 4) := ⟨_, rfl⟩
      obtain ⟨cr, hcr⟩ : ∃ k, k = num ((b.drop 8).take 4) := ⟨_, rfl⟩
      have lkd : kd < 256 := by rw [hkd]; exact num_lt_of (n := 1) (fun x hx => hb.2.1 x (List.mem_of_mem_drop (List.mem_of_mem_take hx))) (by rw [List.length_take]; omega)
      have lm : m < 4294967296 := by rw [hmm]; exact num_lt_of (n := 4) (fun x hx => hb.2.1 x (List.mem_of_mem_drop (List.mem_of_mem_take hx))) (by rw [List.length_take]; omega)
      have lcr : cr < 4294967296 := by rw [hcr]; exact num_lt_of (n := 4) (fun x hx => hb.2.1 x (List.mem_of_mem_drop (List.mem_of_mem_take hx))) (by rw [List.length_take]; omega)
      obtain ⟨q, hq⟩ : ∃ q, q = Crc.crc (b.take 8) := ⟨_, rfl⟩
      have lq : q < 4294967296 := by rw [hq]; exact Crc.crc_lt _ (fun x hx => hb.2.1 x (List.mem_of_mem_take hx))
      have hhd : hd b = if 1 ≤ kd ∧ kd ≤ 3 ∧ m ≤ 30000 ∧ cr = q then some (kd, m) else none := by
        unfold hd
        rw [← hkd, ← hmm, ← hcr, ← hq]
        by_cases hh : 1 ≤ kd ∧ kd ≤ 3 ∧ m ≤ 30000 ∧ cr = q
        · rw [if_pos hh, if_pos ⟨by omega, hcub, hh.1, hh.2.1, hh.2.2.1, hh.2.2.2⟩]
        · rw [if_neg hh, if_neg (fun h2 => hh ⟨h2.2.2.1, h2.2.2.2.1, h2.2.2.2.2.1, h2.2.2.2.2.2⟩)]
      -- the In
      have l41 : ((b.drop 3).take 41).length = 41 := by rw [List.length_take, List.length_drop]; omega
      have g1 : (InM.got ⟨(b.drop 3).take 41, false⟩ (sizeN 1)) = (b.drop 3).take 1 := by
        simp [InM.got, InM.ok, sizeN, l41]; rw [List.take_take]; rfl
      have r1 : (InM.rest ⟨(b.drop 3).take 41, false⟩ (sizeN 1)) = ⟨(b.drop 4).take 40, false⟩ := by
        simp [InM.rest, InM.ok, sizeN, l41]; rw [← List.drop_one, List.drop_take, List.drop_drop]
      have l40 : ((b.drop 4).take 40).length = 40 := by rw [List.length_take, List.length_drop]; omega
      have g2 : (InM.got ⟨(b.drop 4).take 40, false⟩ (sizeN 4)) = (b.drop 4).take 4 := by
        simp [InM.got, InM.ok, sizeN, l40]; rw [List.take_take]; rfl
      have r2 : (InM.rest ⟨(b.drop 4).take 40, false⟩ (sizeN 4)) = ⟨(b.drop 8).take 36, false⟩ := by
        simp [InM.rest, InM.ok, sizeN, l40]; rw [List.drop_take, List.drop_drop]
      have l36 : ((b.drop 8).take 36).length = 36 := by rw [List.length_take, List.length_drop]; omega
      have g3 : (InM.got ⟨(b.drop 8).take 36, false⟩ (sizeN 4)) = (b.drop 8).take 4 := by
        simp [InM.got, InM.ok, sizeN, l36]; rw [List.take_take]; rfl
      have G1 := Lib.hid g1
      have G2 := Lib.hid g2
      have G3 := Lib.hid g3
      have R1 := Lib.hid r1
      have R2 := Lib.hid r2
      have HKD := Lib.hid hkd
      have HMM := Lib.hid hmm
      have HCR := Lib.hid hcr
      have HQ := Lib.hid hq
      have HHD := Lib.hid hhd
      have HB8 := Lib.hid hb8
      have HM := Lib.hid hm'
      clear hb hr3 hcub hm hm' hb8 hkd hmm hcr hq hhd l41 g1 r1 l40 g2 r2 l36 g3 hlen hs
      go_enter Tryz.func148, Tryz.ntmps148
      go_wp2_with fail
      refine (newIn (cut A c 3) 41 (c - 3) _ w HM.out (by omega)).mono ?_
      rintro e w1 ⟨g, rfl, hg, hi1, hb1, -⟩
      go_wp2_with fail
      refine (in_n g _ 1 w1 hi1).mono ?_
      rintro e w2 ⟨rfl, hi2, ho2⟩
      rw [G1.out, ← HKD.out]
      rw [R1.out] at hi2
      have hb2 := hb1.trans (ho2.below hb1.size (fun i hi e => by omega))
      clear hi1 ho2
      go_wp2_with fail
      refine (in_n g _ 4 w2 hi2).mono ?_
      rintro e w3 ⟨rfl, hi3, ho3⟩
      rw [G2.out, ← HMM.out]
      rw [R2.out] at hi3
      have hb3 := hb2.trans (ho3.below hb2.size (fun i hi e => by omega))
      clear hi2 ho3 hb2
      go_wp2_with fail
      refine (in_n g _ 4 w3 hi3).mono ?_
      rintro e w4 ⟨rfl, hi4, ho4⟩
      rw [G3.out, ← HCR.out]
      have hb4 := hb3.trans (ho4.below hb3.size (fun i hi e => by omega))
      have hr8 := HB8.out.below hb4
      clear hi3 hi4 ho4 hb3
      have wcr : IntKind.u32.wrap (cr : Int) = (cr : Int) := by rw [IntKind.wrap_u32]; omega
      by_cases c1 : 1 ≤ kd
      · by_cases c3 : kd ≤ 3
        · by_cases c4 : m ≤ 30000
          · have d1 : decide (1 ≤ (kd : Int)) = true := by simp; omega
            have d3 : decide ((kd : Int) ≤ 3) = true := by simp; omega
            have d4 : decide ((m : Int) ≤ 30000) = true := by simp; omega
            go_wp2_with fail
            refine (crc_any A 8 c _ w4 hr8 (by omega)).mono ?_
            rintro e w5 ⟨rfl, rfl⟩
            rw [← HQ.out]
            clear hr8
            go_wp2
            go_ret3
            refine ⟨kd, m, ((cr : Int) == (q : Int)), rfl, fun k m' h => ?_, fun h => ?_, hb4⟩
            · rw [HHD.out] at h
              split at h
              · rename_i hh
                simp only [Option.some.injEq, Prod.mk.injEq] at h
                obtain ⟨rfl, rfl⟩ := h
                exact ⟨rfl, rfl, by simp [hh.2.2.2]⟩
              · cases h
            · rw [HHD.out] at h
              by_cases hq : cr = q
              · rw [if_pos ⟨c1, c3, c4, hq⟩] at h; cases h
              · simp; omega
          · have d1 : decide (1 ≤ (kd : Int)) = true := by simp; omega
            have d3 : decide ((kd : Int) ≤ 3) = true := by simp; omega
            have d4 : decide ((m : Int) ≤ 30000) = false := by simp; omega
            go_wp2
            go_ret3
            refine ⟨kd, m, false, rfl, fun k m' h => ?_, fun _ => rfl, hb4⟩
            rw [HHD.out, if_neg (by omega)] at h; cases h
        · have d1 : decide (1 ≤ (kd : Int)) = true := by simp; omega
          have d3 : decide ((kd : Int) ≤ 3) = false := by simp; omega
          go_wp2
          go_ret3
          refine ⟨kd, m, false, rfl, fun k m' h => ?_, fun _ => rfl, hb4⟩
          rw [HHD.out, if_neg (by omega)] at h; cases h
      · have d1 : decide (1 ≤ (kd : Int)) = false := by simp; omega
        go_wp2
        go_ret3
        refine ⟨kd, m, false, rfl, fun k m' h => ?_, fun _ => rfl, hb4⟩
        rw [HHD.out, if_neg (by omega)] at h; cases h
    · have hne := str_ne hr3.2.1 (b := [99, 117, 98]) (by decide) hcub
      rw [str_toList [99, 117, 98]] at hne
      have hne' : ((str (b.take 3)).toList == ([99, 117, 98] : List UInt8)) = false := hne
      clear hne
      rw [hd_none_cub hcub]
      clear hb hr3 hcub hlen
      go_enter Tryz.func148, Tryz.ntmps148
      go_wp2
      go_ret3
      exact ⟨0, 0, false, rfl, (fun _ _ h => by cases h), fun _ => rfl, Below.refl _ _⟩
end Go.Proofs.YtlhaempecidohaaGreatDoor
