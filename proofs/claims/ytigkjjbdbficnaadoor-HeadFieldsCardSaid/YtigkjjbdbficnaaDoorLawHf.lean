/-
  The walk of the law HeadFields.
-/
import Derived.Test.YtigkjjbdbficnaaDoorLawHd
namespace Go.Proofs.YtigkjjbdbficnaaDoor
open Go.RowKit

theorem pick_snoc (l : List F) (f : F) (nm : ByteArray) : pick (l ++ [f]) nm = if (pick l nm).2 then pick l nm else if alikeB (st f.1) nm then (f.2, true) else ([], false) := by
  unfold pick
  rw [List.find?_append]
  cases h : l.find? fun f => alikeB (st f.1) nm with
  | some g => simp
  | none =>
    simp only [Option.none_or, List.find?_singleton]
    cases ha : alikeB (st f.1) nm <;> simp
theorem pick_take {fs : List F} {i : Nat} {f : F} (h : fs[i]? = some f) (nm : ByteArray) :
    pick (fs.take (i + 1)) nm = if (pick (fs.take i) nm).2 then pick (fs.take i) nm else if alikeB (st f.1) nm then (f.2, true) else ([], false) := by
  rw [List.take_add_one, h]
  exact pick_snoc _ _ _
theorem pick_no {l : List F} {nm : ByteArray} (h : (pick l nm).2 = false) : pick l nm = ([], false) := by
  unfold pick at *
  cases hf : l.find? fun f => alikeB (st f.1) nm with
  | some g => rw [hf] at h; cases h
  | none => rfl

attribute [local irreducible] Calls in
set_option maxRecDepth 8000 in
set_option maxHeartbeats 2000000 in
theorem headFields_walk (a0 : Option Addr) (len0 cap0 : Nat) (z0 : List Int) (nm : ByteArray) (w : World) (w0 : IsRow .u8 w a0 len0 cap0 z0) (hc : len0 ≤ cap0) :
    Calls Tryd.prog 4 #[.slice a0 len0 cap0, .string nm] w fun e w' => e = .returned (.bool true) ∧ Below w.heap.size w w' := by
  have hr0 := RB.of_row w0
  obtain ⟨u, hu⟩ : ∃ u, u = un (nats (z0.take len0)) := ⟨_, rfl⟩
  have hr : RB w a0 len0 (nu u) := by rw [hu, nu_un hr0.2.1]; exact hr0
  have hl : u.length = len0 := by have := hr.1; rw [nu_length] at this; exact this
  have HR := Lib.hid hr
  have HL := Lib.hid hl
  clear hr0 hu hr hl w0
  by_cases hbig : 10000 < len0
  · go_enter Tryd.func4, Tryd.ntmps4
    go_wp2_with fail
    refine (awake14 _).mono ?_
    rintro e w1 ⟨rfl, hb1⟩
    go_wp2_with fail
    refine (awake14 _).mono ?_
    rintro e w2 ⟨rfl, hb2⟩
    go_wp2
    go_ret
    exact ⟨rfl, hb1.trans (hb2.mono hb1.size)⟩
  · by_cases hbig2 : 200 < nm.size
    · go_enter Tryd.func4, Tryd.ntmps4
      go_wp2_with fail
      refine (awake14 _).mono ?_
      rintro e w1 ⟨rfl, hb1⟩
      go_wp2_with fail
      refine (awake14 _).mono ?_
      rintro e w2 ⟨rfl, hb2⟩
      go_wp2
      go_ret
      exact ⟨rfl, hb1.trans (hb2.mono hb1.size)⟩
    · obtain ⟨fs, hfs⟩ : ∃ fs, fs = heads u := ⟨_, rfl⟩
      have hbd := heads_bd u
      rw [← hfs, HL.out] at hbd
      have HBD := Lib.hid hbd
      have HH := Lib.hid hfs
      clear hbd hfs
      go_enter Tryd.func4, Tryd.ntmps4
      go_wp2_with fail
      refine (awake14 _).mono ?_
      rintro e w1 ⟨rfl, hb1⟩
      have HB1 := Lib.hid hb1
      clear hb1
      go_wp2_with fail
      refine (head_any a0 len0 cap0 u w1 (HR.out.below HB1.out) hc (by omega)).mono ?_
      rintro e w2 ⟨L, k, cL, rfl, hf2, hb2⟩
      rw [← HH.out] at hf2
      have HB2 := Lib.hid (HB1.out.trans (hb2.mono HB1.out.size))
      have HF2 := Lib.hid hf2
      have HKL := Lib.hid hf2.1
      have hk1 : k ≤ 10000 := by rw [← HKL.out]; exact Nat.le_trans HBD.out.1 (by omega)
      clear hf2 hb2
      go_wp2_with fail
      refine (names_any a0 len0 cap0 u w2 (HR.out.below HB2.out) hc (by omega)).mono ?_
      rintro e w3 ⟨A3, k3, c3, rfl, ho3, hb3⟩
      rw [← HH.out] at ho3
      have hk3 : k3 = k := by rw [← ho3.1, ← HKL.out]; simp [names]
      subst hk3
      have HB3 := Lib.hid (HB2.out.trans (hb3.mono HB2.out.size))
      have HF3 := Lib.hid (HF2.out.below hb3)
      have HO3 := Lib.hid ho3
      have HR3 := Lib.hid (HR.out.below HB3.out)
      clear ho3 hb3
      go_wp2_with fail
      go_loopw [8, 9, 40] (fun v8 v9 v40 wr => ∃ (i : Nat) (pv : U) (pb : Bool), v40 = .int .i64 (i : Int) ∧ v8 = .string (st pv) ∧ v9 = .bool pb ∧ i ≤ k3 ∧ pick (fs.take i) nm = (pv, pb) ∧ Below w3.heap.size w3 wr) (fun _ _ v40 _ => k3 - (intOf v40).toNat)
      case atStart => exact ⟨0, [], false, rfl, rfl, rfl, Nat.zero_le _, rfl, Below.refl _ _⟩
      case round =>
        obtain ⟨i, pv, pb, rfl, rfl, rfl, hik, hpk, hB⟩ := hrel
        have HPK := Lib.hid hpk
        have HB := Lib.hid hB
        have hwqi := hB.size
        clear hpk hB
        by_cases hlt : i < k3
        · obtain ⟨f, hf⟩ : ∃ f, fs[i]? = some f := ⟨_, List.getElem?_eq_getElem (by rw [HKL.out]; exact hlt)⟩
          have hfb := HBD.out.2 f (List.mem_of_getElem? hf)
          have HN := Lib.hid (pick_take hf nm)
          have hfsr := HF3.out.below HB.out
          obtain ⟨g, rfl, hg1, hg2⟩ := hfsr.some_ (by omega)
          obtain ⟨hc1, hc2, -⟩ := hfsr.at_ hf
          obtain ⟨ad, s, rfl, hs, hc3⟩ := (HO3.out.below HB.out).read.at_ (k := i) hlt
          have hs2 : s = st f.1 := by
            have : (names fs)[i]? = some (st f.1) := by simp [names, hf]
            rw [this] at hs
            injection hs with hs
            exact hs.symm
          have hA := fun W => alike_any s nm W (by rw [hs2, st_size]; omega)
          have HS := Lib.hid hs2
          rw [← hs2] at hc1
          obtain ⟨S2, hS2⟩ : ∃ s, s = st f.2 := ⟨_, rfl⟩
          rw [← hS2] at hc2
          have HS2 := Lib.hid hS2
          clear hf hfb hfsr hs hs2 hS2
          cases pb
          · have hpv : pv = [] := by
              have := pick_no (l := fs.take i) (nm := nm) (by rw [HPK.out])
              rw [HPK.out] at this
              exact (Prod.mk.inj this).1
            obtain ⟨ab, hab⟩ : ∃ b, b = alikeB s nm := ⟨_, rfl⟩
            rw [← hab] at hA
            have HAB := Lib.hid hab
            have HPV := Lib.hid hpv
            clear hab hpv
            cases ab
            · have HNX : Hid (pick (fs.take (i + 1)) nm = (pv, false)) := by
                show _ = _
                rw [HN.out, HPK.out, ← HS.out, ← HAB.out, HPV.out]
                rfl
              go_wp2_with fail
              go_quiet (fail)
              go_wp2_with (first | (go_at_call 9; refine (hA _).mono ?_; rintro e w4 ⟨rfl, m4, rfl⟩))
              go_roundw
              case rel => exact ⟨i + 1, pv, false, by go_num, rfl, rfl, hlt, HNX.out, HB.out.trans ((below_dn wr _).mono hwqi)⟩
              case measure => simp [intOf]; omega
            · have HNX : Hid (pick (fs.take (i + 1)) nm = (f.2, true)) := by
                show _ = _
                rw [HN.out, HPK.out, ← HS.out, ← HAB.out]
                rfl
              go_wp2_with fail
              go_quiet (fail)
              go_wp2_with (first | (go_at_call 9; refine (hA _).mono ?_; rintro e w4 ⟨rfl, m4, rfl⟩))
              go_roundw
              case rel => exact ⟨i + 1, f.2, true, by go_num, by rw [HS2.out], rfl, hlt, HNX.out, HB.out.trans ((below_dn wr _).mono hwqi)⟩
              case measure => simp [intOf]; omega
          · have HNX : Hid (pick (fs.take (i + 1)) nm = (pv, true)) := by
              show _ = _
              rw [HN.out, HPK.out]
              rfl
            go_wp2_with fail
            go_quiet (fail)
            go_wp2_with fail
            go_roundw
            case rel => exact ⟨i + 1, pv, true, by go_num, rfl, rfl, hlt, HNX.out, HB.out.trans ((below_dn wr _).mono hwqi)⟩
            case measure => simp [intOf]; omega
        · obtain rfl : i = k3 := by omega
          have hpk := HPK.out
          rw [List.take_of_length_le (by rw [HKL.out]; exact Nat.le_refl _)] at hpk
          have hF := field_any a0 len0 cap0 u nm wr (HR3.out.below HB.out) hc (by omega) (by omega)
          rw [← HH.out, hpk] at hF
          have HF := Lib.hid hF
          clear hF hpk
          go_wp2_with fail
          refine HF.out.mono ?_
          rintro e w4 ⟨rfl, hb4⟩
          have HB4 := Lib.hid ((HB3.out.trans (HB.out.mono HB3.out.size)).trans (hb4.mono (Nat.le_trans HB3.out.size hwqi)))
          clear hb4
          obtain ⟨S, hS⟩ : ∃ s, s = st pv := ⟨_, rfl⟩
          dsimp only
          rw [← hS]
          clear hS
          cases pb
          all_goals
            go_wp2
            go_ret
            exact ⟨by simp, HB4.out⟩
end Go.Proofs.YtigkjjbdbficnaaDoor
