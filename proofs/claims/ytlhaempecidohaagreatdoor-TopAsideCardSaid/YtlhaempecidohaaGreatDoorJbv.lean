/-
  The law: fresh, TopAside.
-/
import Derived.Deep.CutBlock
import Derived.Test.YtlhaempecidohaaGreatDoorJbu
set_option linter.unusedSimpArgs false
set_option linter.unusedVariables false
namespace Go.Proofs.YtlhaempecidohaaGreatDoor
open Go.RowKit
def FreshE (w : World) (e : Ending) (w' : World) : Prop :=
  ∃ gs g m mm F bs, e = .returned (.tuple #[.pointer (some ⟨g, 0, none⟩), .pointer (some ⟨gs, 0, none⟩)]) ∧ StoreS w' gs g m mm 4194304 F bs ∧ F.total ≤ 1000 ∧ w.heap.size ≤ gs ∧ w.heap.size ≤ g ∧ w.heap.size ≤ m ∧ w.heap.size ≤ mm ∧ Below w.heap.size w w'
set_option maxRecDepth 8000 in
set_option maxHeartbeats 1000000 in
theorem fresh_any {w : World} (hE : Env w) (h9 : 9 ≤ w.heap.size) : Calls Tryz.prog 6 #[] w (FreshE w) := by
  have HN := Lib.hid (new_any 4194304 (by omega) w)
  have HE := Lib.hid hE
  clear hE
  go_enter Tryz.func6, Tryz.ntmps6
  go_wp2_with fail
  refine HN.out.mono ?_
  rintro e w1 ⟨g, m, rfl, hd, hg, hm, hb1⟩
  have HO := Lib.hid (open_any hd (.inl ⟨rfl, by omega, rfl⟩) (HE.out.below hb1) ⟨Nat.le_trans h9 hg, Nat.le_trans h9 hm⟩)
  have HB1 := Lib.hid hb1
  clear hd hb1 HN
  go_wp2_with fail
  refine HO.out.mono ?_
  rintro e w2 ⟨gs, mm, F, rfl, hst, ht, hgs, hmm, ho2⟩
  have HST := Lib.hid hst
  have HO2 := Lib.hid ho2
  have h0 : AL.total ([] : DiskF) = 0 := rfl
  rw [h0] at ht
  clear hst ho2 HO h0
  go_wp2_with fail
  go_ret2
  have hz1 := HB1.out.size
  exact ⟨gs, g, m, mm, F, _, rfl, HST.out, by omega, by omega, hg, hm, by omega, ((Only.of_below HB1.out (DB g m)).trans HO2.out (fun _ _ h => h)).below (Nat.le_refl _) (fun q hq e => by rcases e with e | e <;> omega)⟩
set_option maxRecDepth 8000 in
set_option maxHeartbeats 4000000 in
theorem topAside_law {w : World} (hE : Env w) (h9 : 9 ≤ w.heap.size) (A : Option Addr) (n c : Nat) (os : List OpS) (h : RunsR w A n os) (B : Option Addr) (k d : Nat) (bytes : List Nat) (hB : RB w B k bytes) (hkd : k ≤ d) (hk : k ≤ 140737488355328) (t : Bool) :
    Calls Tryz.prog 3 #[.slice A n c, .slice B k d, .bool t] w fun e w' => e = .returned (.bool true) ∧ Below w.heap.size w w' := by
  have H := Lib.hid h
  have HE := Lib.hid hE
  have HB := Lib.hid hB
  have HAW : Hid (∀ w', Below w.heap.size w w' → Calls Tryz.prog 4 #[] w' fun e w'' => e = .returned (.bool true) ∧ Below w'.heap.size w' w'') := fun w' hb => awake_any (hE.below hb) (Nat.le_trans h9 hb.size)
  have hn1 := h.2.1
  clear h hE hB
  go_enter Tryz.func3, Tryz.ntmps3
  go_wp2_with fail
  refine (HAW.out w (Below.refl _ _)).mono ?_
  rintro e w1 ⟨rfl, hb1⟩
  have HF := Lib.hid (few_any A n c os (H.out.below hb1))
  have HB1 := Lib.hid hb1
  clear hb1
  go_wp2_with fail
  refine HF.out.mono ?_
  rintro e w2 ⟨⟨fb, rfl, hfb⟩, hb2⟩
  have HB2 := Lib.hid (HB1.out.trans (hb2.mono HB1.out.size))
  have HFB := Lib.hid hfb
  clear hb2 hfb HF
  cases fb with
  | false =>
    go_wp2_with fail
    refine (HAW.out w2 HB2.out).mono ?_
    rintro e w3 ⟨rfl, hb3⟩
    have HB3 := Lib.hid (HB2.out.trans (hb3.mono HB2.out.size))
    clear hb3
    go_wp2_with fail
    go_ret
    exact ⟨rfl, HB3.out⟩
  | true =>
    have HFW : Hid (∀ o ∈ os, OpFew o) := (HFB.out rfl).2
    clear HFB
    by_cases hk3 : k ≤ 3000
    · have HFR := Lib.hid (fresh_any (HE.out.below HB2.out) (Nat.le_trans h9 HB2.out.size))
      go_wp2_with fail
      refine HFR.out.mono ?_
      rintro e w3 ⟨gs, g, m, mm, F, bs, rfl, hst, ht, hgs, hg, hm, hmm, hb3⟩
      have HST := Lib.hid hst
      have HB3 := Lib.hid (HB2.out.trans (hb3.mono HB2.out.size))
      clear hst hb3 HFR
      have HD3 : Hid (w.heap.size ≤ gs ∧ w.heap.size ≤ g ∧ w.heap.size ≤ m ∧ w.heap.size ≤ mm) := by
        have := HB2.out.size
        exact ⟨by omega, by omega, by omega, by omega⟩
      have hnk : decide ((3000 : Int) < (k : Int)) = false := decide_eq_false (by omega)
      clear hgs hg hm hmm
      go_wp2_with fail
      go_loopw [39] (fun v39 wr => ∃ (i : Nat) (F : DiskF) (bs : Boxes), i ≤ n ∧ v39 = .int .i64 (i : Int) ∧ StoreS wr gs g m mm 4194304 F bs ∧ F.total ≤ 2400000 ∧ Only (SB g m mm) w3 wr) (fun v39 _ => n - (intOf v39).toNat)
      case atStart => exact ⟨0, F, bs, Nat.zero_le _, rfl, HST.out, by omega, Only.refl _ _⟩
      case round =>
        obtain ⟨i, Fi, bi, hi, rfl, hsi, hti, hoi⟩ := hrel
        have hbw : Below w.heap.size w wr := ((Only.of_below HB3.out (SB g m mm)).trans hoi (fun _ _ h => h)).below (Nat.le_refl _) (fun q hq e => by
          obtain ⟨h1, h2, h3, h4⟩ := HD3.out
          rcases e with e | e | e <;> omega)
        have HSI := Lib.hid hsi
        have HOI := Lib.hid hoi
        have HBW := Lib.hid hbw
        clear hsi hoi hbw
        by_cases hlt : i < n
        · have HRM := Lib.hid (roomy_law HSI.out.disk)
          by_cases hroom : 3145728 < 4194304 - Fi.total
          · rw [decide_eq_true hroom] at HRM
            obtain ⟨b, p, rfl, hbl, hcs⟩ := (H.out.below HBW.out).2.2.2 (by omega)
            obtain ⟨o, ho⟩ : ∃ o, os[i]? = some o := ⟨_, List.getElem?_eq_getElem (by rw [H.out.1]; exact hlt)⟩
            obtain ⟨v, hv, hr⟩ := hcs i o ho
            obtain ⟨A1, k1, d1, U, un, uc, y1, y2, KA, kn, kc, rfl, hopr⟩ := hv.form
            have hof := HFW.out o (List.mem_of_getElem? ho)
            have hrw : wr.rangeAt b (p + i * 14) (opCells o (.slice A1 k1 d1) (.slice U un uc)) := fun j u hu => hr j u (by
              have hj := (List.getElem?_eq_some_iff.1 hu).1
              rw [List.getElem?_append_left hj]; exact hu)
            have HRW := Lib.hid hrw
            have HOPR := Lib.hid hopr
            have HOF := Lib.hid hof
            obtain ⟨d39, hu, hd⟩ := rowT row39
            have HU := Lib.hid hu
            have HD := Lib.hid hd
            clear hcs ho hv hr hopr hof hrw hu hd
            go_wp2_with fail
            refine HRM.out.mono ?_
            rintro e w4 ⟨rfl, hb4⟩
            have HDO := Lib.hid (do_law (HSI.out.below hb4) ((HE.out.below HBW.out).below hb4) (by omega) o A1 k1 d1 U un uc (HOPR.out.below hb4) HOF.out)
            have HRW4 : Hid (w4.rangeAt b (p + i * 14) (opCells o (.slice A1 k1 d1) (.slice U un uc))) := fun j u hu => cell_later hb4 (HRW.out j u hu)
            have HB4 := Lib.hid hb4
            clear hb4 HRM
            go_wp2_with (refine wpList_load_mid rfl 39 (.tmp 48) rfl b (p + i * 14) rfl _ d39 HRW4.out HU.out HD.out size39 ?_)
            refine HDO.out.mono ?_
            rintro e w5 ⟨⟨v5, rfl⟩, F5, bs5, hs5, ht5, ho5⟩
            have HS5 := Lib.hid hs5
            have HO5 := Lib.hid ((HOI.out.trans (Only.of_below HB4.out (SB g m mm)) (fun _ _ h => h)).trans ho5 (fun _ _ h => h))
            clear hs5 ho5 HDO
            go_wp2_with fail
            exact ⟨⟨i + 1, F5, bs5, hlt, by first | rfl | (congr 1), HS5.out, by omega, HO5.out⟩, by simp [intOf]; omega⟩
          · rw [decide_eq_false hroom] at HRM
            go_wp2_with fail
            refine HRM.out.mono ?_
            rintro e w4 ⟨rfl, hb4⟩
            have HB4 := Lib.hid hb4
            clear hb4 HRM
            go_wp2_with fail
            exact ⟨⟨i + 1, Fi, bi, hlt, by first | rfl | (congr 1), HSI.out.below HB4.out, hti, HOI.out.trans (Only.of_below HB4.out (SB g m mm)) (fun _ _ h => h)⟩, by simp [intOf]; omega⟩
        · obtain rfl : i = n := by omega
          obtain ⟨B0, r0, hB0, -⟩ := HSI.out.rest.good.first
          have hmem : (0, B0) ∈ bi := by rw [hB0]; exact List.mem_cons_self ..
          have hix : AL.get Fi (idxN 0) = some (safeF (idxB B0.idx)) := HSI.out.rest.good.idx _ hmem (.inr rfl)
          have hkb := hB0.symm
          have HMEM := Lib.hid hmem
          have HIX := Lib.hid hix
          have HRD : Hid (Calls Tryz.prog 9 #[.pointer (some ⟨g, 0, none⟩), .string ⟨#[105, 100, 120, 46, 48]⟩] wr (GotB wr (idxB B0.idx))) := read_yes HSI.out.disk (s := idxN 0) (by decide) hix
          clear hB0 hmem hix hkb
          obtain ⟨x0, hx0⟩ : ∃ x0, idxB B0.idx = x0 := ⟨_, rfl⟩
          rw [hx0] at HRD HIX
          have HX0 := Lib.hid hx0
          clear hx0
          go_wp2_with fail
          refine HRD.out.mono ?_
          rintro e w4 ⟨A4, c4, rfl, hown4, hb4⟩
          have HB4 := Lib.hid (HBW.out.trans (hb4.mono HBW.out.size))
          have hrb4 := hown4.read
          have hrB4 := HB.out.below HB4.out
          have q1 := conv_rb hrb4 c4
          have q2 := conv_rb hrB4 d
          have HQ4 := Lib.hid hrb4
          have HL4 := Lib.hid hown4.lt
          have HDK4 := Lib.hid (HSI.out.disk.below hb4)
          have hz4 := hb4.size
          obtain ⟨ln, hln⟩ : ∃ ln, x0.length = ln := ⟨_, rfl⟩
          obtain ⟨hbn, hbl, -⟩ := HB.out
          have HLN := Lib.hid hln
          have HKN : Hid (bytes.length = k) := hbn
          rw [hln] at q1 HQ4 ⊢
          by_cases heq : x0 = bytes
          · rw [heq] at q1
            have HEQ := Lib.hid heq
            have hbb : ((str bytes).toList == (str bytes).toList) = true := beq_self_eq_true _
            clear heq hln hbn
            go_wp2_with fail
            go_ret
            exact ⟨rfl, HB4.out⟩
          · have hbb := str_ne hrb4.2.1 hbl heq
            have HNE : Hid (x0 ≠ bytes) := heq
            have HHM : Hid (Calls Tryz.prog 10 #[.pointer (some ⟨g, 0, none⟩), .string ⟨#[105, 100, 120, 46, 48]⟩, .slice B k d] w4 (Changed w4 g m 4194304 Fi (idxN 0) (some (safeF bytes)))) := harm_any HDK4.out (s := idxN 0) (by decide) HIX.out hrB4 (by omega) (by omega)
            clear heq hln hbn
            go_wp2_with fail
            refine HHM.out.mono ?_
            rintro e w5 ⟨rfl, F5, hd5, hu5, ho5⟩
            have ht5 := hu5.total HDK4.out.nodup hd5.nodup
            have l5 : lenF (some (safeF bytes)) = bytes.length := rfl
            have HD5 := Lib.hid hd5
            have HU5 := Lib.hid hu5
            have HO5 := Lib.hid ho5
            have hE5 : Env w5 := (HE.out.below HB4.out).only ho5 (fun q e => by
              obtain ⟨h1, h2, h3, h4⟩ := HD3.out
              rcases e with e | e <;> omega)
            have hf5 : F5.total + 12000 ≤ 4194304 := by
              rw [l5, HKN.out] at ht5
              omega
            have hg95 : 9 ≤ g ∧ 9 ≤ m := ⟨Nat.le_trans h9 HD3.out.2.1, Nat.le_trans h9 HD3.out.2.2.1⟩
            have hne5 : idxB B0.idx ≠ bytes := by rw [HX0.out]; exact HNE.out
            cases t with
            | true =>
              have HCK := Lib.hid (check_harmed hd5 HSI.out.rest hu5 HMEM.out hne5 hE5 hg95 hf5)
              clear hd5 hu5 ho5 ht5 hE5 hf5 hg95 hne5 HHM
              go_wp2_with fail
              refine HCK.out.mono ?_
              rintro e w6 ⟨rfl, ⟨F6, hd6, h61, h62⟩, ho6⟩
              rw [HX0.out] at h62
              have HD6 := Lib.hid hd6
              have H61 := Lib.hid h61
              have H62 := Lib.hid h62
              have HO6 := Lib.hid (HO5.out.trans ho6 (fun _ _ h => h))
              clear hd6 h61 h62 ho6 HCK
              have hdg : ∀ q, w.heap.size ≤ q → q ≠ g → q ≠ m → ¬ DB g m q := fun q _ h1 h2 e => by rcases e with e | e; exact h1 e; exact h2 e
              have HR5 : Hid (Calls Tryz.prog 9 #[.pointer (some ⟨g, 0, none⟩), .string ⟨#[98, 97, 100, 46, 48, 46, 105, 100, 120, 46, 48]⟩] w6 (GotB w6 bytes)) := read_yes HD6.out (s := badN (idxN 0)) (by decide) H61.out
              go_wp2_with fail
              refine HR5.out.mono ?_
              rintro e w7 ⟨A7, c7, rfl, hown7, hb7⟩
              have HR8 : Hid (Calls Tryz.prog 9 #[.pointer (some ⟨g, 0, none⟩), .string ⟨#[105, 100, 120, 46, 48]⟩] w7 (GotB w7 x0)) := read_yes (HD6.out.below hb7) (s := idxN 0) (by decide) H62.out
              have HQ7 := Lib.hid hown7.read
              have HB7 := Lib.hid hb7
              clear hown7 hb7 HR5
              go_wp2_with fail
              refine HR8.out.mono ?_
              rintro e w8 ⟨A8, c8, rfl, hown8, hb8⟩
              have hob : Only (DB g m) w4 w8 := (HO6.out.trans (Only.of_below HB7.out (DB g m)) (fun _ _ h => h)).trans (Only.of_below hb8 (DB g m)) (fun _ _ h => h)
              have hlts := HSI.out.lts
              have hb08 : Below w.heap.size w w8 := ((Only.of_below HB4.out (DB g m)).trans hob (fun _ _ h => h)).below (Nat.le_refl _) (fun q hq e => by
                obtain ⟨h1, h2, h3, h4⟩ := HD3.out
                rcases e with e | e <;> omega)
              have k1 := conv_rb (HQ7.out.below hb8) c7
              have k2 := conv_rb (HB.out.below hb08) d
              have k3 := conv_rb hown8.read c8
              have k4 := conv_rb (HQ4.out.only hob (fun q hq e => by have := (HL4.out q hq).1; rcases e with e | e <;> omega)) c4
              rw [HLN.out] at k3
              rw [HKN.out] at k1
              have HB8 := Lib.hid hb08
              clear hown8 hb8 hob hb08 HR8
              rw [HKN.out, HLN.out]
              go_wp2_with fail
              go_ret
              exact ⟨rfl, HB8.out⟩
            | false =>
              have hhm := HSI.out.rest.harm hu5
              have hnb : AL.get F5 (badN (idxN 0)) = none := by
                cases hg' : AL.get F5 (badN (idxN 0)) with
                | none => rfl
                | some f => exact absurd (hhm.2.2.2 _ _ hg').1 (bad_nin _)
              have HMD := Lib.hid (mend_any hd5 hhm.1 HMEM.out hne5 hnb hE5 hg95 (by omega))
              clear hd5 hu5 ho5 ht5 hE5 hf5 hg95 hne5 HHM hhm hnb
              go_wp2_with fail
              refine HMD.out.mono ?_
              rintro e w6a ⟨ms, mx, my, MA, mn, mc, F6, rfl, hd6, hm6, ho6⟩
              have hba : Below w6a.heap.size w6a (w6a.alloc (.cells #[.string ms, .int .u32 (mx : Int), .int .u32 (my : Int), .slice MA mn mc] 49)) := (Below.refl _ _).alloc (Nat.le_refl _) _
              obtain ⟨w6, hw6⟩ : ∃ w6, w6 = w6a.alloc (.cells #[.string ms, .int .u32 (mx : Int), .int .u32 (my : Int), .slice MA mn mc] 49) := ⟨_, rfl⟩
              rw [← hw6] at hba
              have HD6 := Lib.hid (hd6.below hba)
              have H61 := Lib.hid hm6.aside.1
              have h62 := hm6.aside.2
              rw [HX0.out] at h62
              have H62 := Lib.hid h62
              have HO6 := Lib.hid ((HO5.out.trans ho6 (fun _ _ h => h)).trans (Only.of_below hba (DB g m)) (fun _ _ h => h))
              have HW6 := Lib.hid hw6
              clear hd6 hm6 ho6 h62 hba hw6 HMD
              go_upto_region 22 with fail
              rw [← HW6.out]
              have hdg : ∀ q, w.heap.size ≤ q → q ≠ g → q ≠ m → ¬ DB g m q := fun q _ h1 h2 e => by rcases e with e | e; exact h1 e; exact h2 e
              have HR5 : Hid (Calls Tryz.prog 9 #[.pointer (some ⟨g, 0, none⟩), .string ⟨#[98, 97, 100, 46, 48, 46, 105, 100, 120, 46, 48]⟩] w6 (GotB w6 bytes)) := read_yes HD6.out (s := badN (idxN 0)) (by decide) H61.out
              go_wp2_with fail
              refine HR5.out.mono ?_
              rintro e w7 ⟨A7, c7, rfl, hown7, hb7⟩
              have HR8 : Hid (Calls Tryz.prog 9 #[.pointer (some ⟨g, 0, none⟩), .string ⟨#[105, 100, 120, 46, 48]⟩] w7 (GotB w7 x0)) := read_yes (HD6.out.below hb7) (s := idxN 0) (by decide) H62.out
              have HQ7 := Lib.hid hown7.read
              have HB7 := Lib.hid hb7
              clear hown7 hb7 HR5
              go_wp2_with fail
              refine HR8.out.mono ?_
              rintro e w8 ⟨A8, c8, rfl, hown8, hb8⟩
              have hob : Only (DB g m) w4 w8 := (HO6.out.trans (Only.of_below HB7.out (DB g m)) (fun _ _ h => h)).trans (Only.of_below hb8 (DB g m)) (fun _ _ h => h)
              have hlts := HSI.out.lts
              have hb08 : Below w.heap.size w w8 := ((Only.of_below HB4.out (DB g m)).trans hob (fun _ _ h => h)).below (Nat.le_refl _) (fun q hq e => by
                obtain ⟨h1, h2, h3, h4⟩ := HD3.out
                rcases e with e | e <;> omega)
              have k1 := conv_rb (HQ7.out.below hb8) c7
              have k2 := conv_rb (HB.out.below hb08) d
              have k3 := conv_rb hown8.read c8
              have k4 := conv_rb (HQ4.out.only hob (fun q hq e => by have := (HL4.out q hq).1; rcases e with e | e <;> omega)) c4
              rw [HLN.out] at k3
              rw [HKN.out] at k1
              have HB8 := Lib.hid hb08
              clear hown8 hb8 hob hb08 HR8
              rw [HKN.out, HLN.out]
              go_wp2_with fail
              go_ret
              exact ⟨rfl, HB8.out⟩
    · go_wp2_with fail
      refine (HAW.out w2 HB2.out).mono ?_
      rintro e w3 ⟨rfl, hb3⟩
      have HB3 := Lib.hid (HB2.out.trans (hb3.mono HB2.out.size))
      clear hb3
      go_wp2_with fail
      go_ret
      exact ⟨rfl, HB3.out⟩
end Go.Proofs.YtlhaempecidohaaGreatDoor
