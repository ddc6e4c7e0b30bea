/-
  Package store: note, the walk.
-/
import Derived.Test.YtlhaempecidohaaGreatDoorJbm
set_option linter.unusedSimpArgs false
set_option linter.unusedVariables false
namespace Go.Proofs.YtlhaempecidohaaGreatDoor
open Go.RowKit
set_option maxRecDepth 10000 in
set_option maxHeartbeats 20000000 in
theorem note_any {w : World} {gs g m mm cap : Nat} {F : DiskF} {bs : Boxes} (h : StoreS w gs g m mm cap F bs) (hE : Env w) {n : Nat} {B : BoxSt} (hb : (n, B) ∈ bs) (nm : ByteArray) (hnm : B.l.name = nm) (ep nx : Nat) (A : Option Addr) (k c : Nat) (vs : List (List Value)) (ms : List Msg)
    (hr : RowR w A k 4 vs) (hx : All2 MsgV vs ms) (hk : k ≤ 10000000) (D : Option Addr) (nn nc : Nat) (nvs : List (List Value)) (ns : List Note) (hrn : RowR w D nn 7 nvs) (hxn : All2 (NoteR w) nvs ns) (hnn : nn ≤ 1000000) (hfx : ∀ x ∈ ns, x.fits)
    (hname : ∀ x ∈ ns, x.kind = 3 ∨ x.name = nm) (hsum : (logB B.ns).length + (logB ns).length ≤ 5000000) :
    Calls Tryz.prog 69 #[.pointer (some ⟨gs, 0, none⟩), .agg (boxCells nm ep nx (.slice A k c)).toArray, .slice D nn nc] w (NotedE w gs g m mm cap F bs n (B.more ns (marksOf ms))) := by
  have hG := h.rest.good
  have HGMW := Lib.hid h.disk.lt
  have HREST := Lib.hid h.rest
  have hn16 := hG.few _ hb
  have hwh := hG.whole _ hb
  have hlog := hG.log _ hb
  have hnsz : nm.size ≤ 1000000 := by rw [← hnm]; have h60 : (readS B.ns).name.size ≤ 60 := readS_nsize hwh.formed; show (readS B.ns).name.size ≤ _; omega
  have hnum := numOf_mem hG.apart hb hG.up
  rw [hnm] at hnum
  have hnl : ns.length = nn := by rw [← hxn.length]; exact hrn.len
  obtain ⟨ws, hws⟩ : ∃ ws, ws = w.alloc (.cells (boxCells nm ep nx (.slice A k c)).toArray 49) := ⟨_, rfl⟩
  have hbs : Below w.heap.size w ws := by rw [hws]; exact (Below.refl _ _).alloc (Nat.le_refl _) _
  have hg0 : ws.heap[w.heap.size]? = some (.cells (boxCells nm ep nx (.slice A k c)).toArray 49 (0, 0)) := by rw [hws]; exact heap_alloc_new w _
  unfold boxCells at hws hg0 ⊢
  have hS := h.below hbs
  obtain ⟨r1, -, -⟩ := names_right n hn16
  have hNum := number_any hS nm hnsz
  rw [hnum] at hNum
  unfold numI at hNum
  have hFr := frames_any D nn nc nvs ns ws (hrn.below hbs) (hxn.mono (NoteR.below hbs)) (by omega) hfx (hE.below hbs)
  have hlogF := fun w => logf_any n hn16 w
  have hRead : ∀ w', Below ws.heap.size ws w' → Calls Tryz.prog 9 #[.pointer (some ⟨g, 0, none⟩), .string (logN n)] w' (GotB w' (logB B.ns)) := fun w' hb' => read_yes (hS.disk.below hb') (right_size r1) hlog
  have HS := Lib.hid hS
  have HE := Lib.hid (hE.below hbs)
  have HG := Lib.hid hG
  have HMEM := Lib.hid hb
  have HWH := Lib.hid hwh
  have HLOG := Lib.hid hlog
  have HNUM := Lib.hid hNum
  have HFR := Lib.hid hFr
  have HLF := Lib.hid hlogF
  have HRD := Lib.hid hRead
  have HR := Lib.hid (hr.below hbs)
  have HX := Lib.hid hx
  have HNM := Lib.hid hname
  have HBN := Lib.hid hnm
  have HG0 := Lib.hid hg0
  have HBS := Lib.hid hbs
  have HWS := Lib.hid hws
  have HNL : Hid (ns.length = nn) := hnl
  have HSUM := Lib.hid hsum
  have HR1 := Lib.hid r1
  have b0 := cell_of_row ws _ 0 _ _ _ hg0
  have c0 := hS.c0
  clear h hE hb hwh hlog hnsz hnum hnl hbs hws hg0 hS hNum hFr hlogF hRead hr hx hrn hxn hfx hname hG r1 hnm hsum
  go_enter Tryz.func69, Tryz.ntmps69
  go_upto_region 1 with fail
  rw [show World.alloc _ _ = ws from HWS.out.symm]
  go_wp2_with fail
  refine HNUM.out.mono ?_
  rintro e w0 ⟨rfl, rfl⟩
  go_wp2_with fail
  refine (HLF.out w0).mono ?_
  rintro e w0' ⟨rfl, rfl⟩
  go_wp2_with fail
  refine HFR.out.mono ?_
  rintro e w1 (⟨v, z, hz, rfl, hb1⟩ | ⟨A1, c1, ss, hform, rfl, hr1, ha1, hb1⟩)
  · have hz' : (z != 0) = true := by simpa using hz
    have HZ := Lib.hid hz
    have HB := Lib.hid (HBS.out.trans (hb1.mono HBS.out.size))
    clear hb1 hz b0
    go_wp2_with fail
    go_ret
    exact .inl ⟨z, HZ.out, rfl, HB.out⟩
  · have HSL := Lib.hid (sls_of hr1 ha1)
    have HFORM := Lib.hid hform
    have HB1 := Lib.hid hb1
    have HSr1 := Lib.hid hr1
    have HSa1 := Lib.hid ha1
    have c0 := cell_later hb1 c0
    clear hr1 ha1 hform hb1 b0
    go_wp2_with fail
    refine (HRD.out w1 HB1.out).mono ?_
    rintro e w2 ⟨A2, c2, rfl, hown2, hb2⟩
    have hcc := concat_any A1 ns.length c1 (ns.map frB) w2 (HSL.out.below hb2) (by have := HNL.out; omega) (by rw [frB_flatten]; have := HSUM.out; omega)
    rw [frB_flatten] at hcc
    have HCC := Lib.hid hcc
    have HB2 := Lib.hid hb2
    have HW2 := Lib.hid hown2
    clear hcc hb2 hown2 c0
    go_wp2_with fail
    refine HCC.out.mono ?_
    rintro e w3 ⟨A3, c3, rfl, hown3, hb3⟩
    have hb13 := HB2.out.trans (hb3.mono HB2.out.size)
    have HB13 := Lib.hid hb13
    have HW3 := Lib.hid hown3
    have HW23 := Lib.hid (HW2.out.read.below hb3)
    have hsl := Sls.pair HW23.out HW2.out.le HW3.out.read HW3.out.le 23
    obtain ⟨w4, hw4⟩ : ∃ w4, w4 = w3.alloc (.cells #[.slice A2 (logB B.ns).length c2, .slice A3 (logB ns).length c3] 23) := ⟨_, rfl⟩
    rw [← hw4] at hsl
    have hb4 : Below w3.heap.size w3 w4 := by rw [hw4]; exact (Below.refl _ _).alloc (Nat.le_refl _) _
    have hb14 := hb13.trans (hb4.mono hb13.size)
    have efl : [logB B.ns, logB ns].flatten = logB (B.ns ++ ns) := by rw [logB_append]; simp
    have hall5 : (logB (B.ns ++ ns)).length ≤ 5000000 := by rw [logB_append, List.length_append]; exact HSUM.out
    have hcc2 := concat_any (some ⟨w3.heap.size, 0, none⟩) 2 2 [logB B.ns, logB ns] w4 hsl (by omega) (by rw [efl]; omega)
    rw [efl] at hcc2
    have HCC2 := Lib.hid hcc2
    have HB14 := Lib.hid hb14
    have HW4 := Lib.hid hw4
    have HALL5 := Lib.hid hall5
    clear hsl hw4 hb4 hb14 efl hcc2 hb3 hb13 hown3 hall5
    go_wp2_with fail
    rw [← HW4.out]
    refine HCC2.out.mono ?_
    rintro e w5 ⟨A5, c5, rfl, hown5, hb5⟩
    have hf2 : Formed (B.ns ++ ns) := HWH.out.formed.append HFORM.out
    have hb15 := HB14.out.trans (hb5.mono HB14.out.size)
    have hbs5 := HB1.out.trans (hb15.mono HB1.out.size)
    have HRDX := Lib.hid (read_any A5 (logB (B.ns ++ ns)).length c5 (B.ns ++ ns) w5 hf2 hown5.read hown5.le HALL5.out (HE.out.below hbs5))
    have HB15 := Lib.hid hb15
    have HF2 := Lib.hid hf2
    clear hown5 hb5 hf2 hb15 hbs5
    obtain ⟨L, hL⟩ : ∃ L, readS (B.ns ++ ns) = L := ⟨_, rfl⟩
    have hLok : L.ok := by rw [← hL]; exact readS_ok HF2.out
    have hLn : L.name.size ≤ 1000000 := by rw [← hL]; have := readS_nsize HF2.out; omega
    rw [hL] at HRDX
    have HL : Hid (readS (B.ns ++ ns) = L) := hL
    have HLOK := Lib.hid hLok
    have HLN := Lib.hid hLn
    obtain ⟨T, hT⟩ : ∃ T, (logB (B.ns ++ ns)).length = T := ⟨_, rfl⟩
    rw [hT] at HRDX HALL5 ⊢
    have HT : Hid ((logB (B.ns ++ ns)).length = T) := hT
    clear hL hLok hLn hT
    go_wp2_with fail
    refine HRDX.out.mono ?_
    rintro e w6 ⟨A6, n6, c6, vs6, rfl, hr6, ha6, hb6⟩
    obtain ⟨w7, hw7⟩ : ∃ w7, w7 = w6.alloc (.cells (logCells L (.slice A6 n6 c6) (T : Int) (cleanS L)).toArray 87) := ⟨_, rfl⟩
    have hb7 : Below w6.heap.size w6 w7 := by rw [hw7]; exact (Below.refl _ _).alloc (Nat.le_refl _) _
    have hg12 : w7.heap[w6.heap.size]? = some (.cells (logCells L (.slice A6 n6 c6) (T : Int) (cleanS L)).toArray 87 (0, 0)) := by rw [hw7]; exact heap_alloc_new _ _
    have hlv : LogV w7 (.agg (logCells L (.slice A6 n6 c6) (T : Int) (cleanS L)).toArray) L T := ⟨A6, n6, c6, vs6, rfl, hr6.read.below hb7, (ha6.mono LiveA.r).mono (LiveR.below hb7)⟩
    have hll : L.live.length ≤ 10000000 := by
      rw [← HL.out]
      exact Nat.le_trans (live_le (B.ns ++ ns)) (by rw [HT.out]; have := HALL5.out; omega)
    have hb17 := HB15.out.trans ((hb6.trans (hb7.mono hb6.size)).mono HB15.out.size)
    have hbs7 := HB1.out.trans (hb17.mono HB1.out.size)
    have hg07 := (hbs7.block _ (Array.getElem?_eq_some_iff.1 HG0.out).1).trans HG0.out
    unfold logCells at hw7 hg12 hlv
    have HW7 := Lib.hid hw7
    have H06 : Hid (w0'.heap.size ≤ w6.heap.size) := Nat.le_trans HB1.out.size (Nat.le_trans HB15.out.size hb6.size)
    have HR6 := Lib.hid (hr6.below hb7)
    have HA6 := Lib.hid ((ha6.mono LiveA.r).mono (LiveR.below hb7))
    have HG12 := Lib.hid hg12
    have HLV := Lib.hid hlv
    have HLL := Lib.hid hll
    have HB17 := Lib.hid hb17
    have HBS7 := Lib.hid hbs7
    have HG07 := Lib.hid hg07
    have HMK := Lib.hid (marks_any nm ep nx A k c vs ms w7.drew ((HR.out.below hbs7).heap rfl) HX.out hk)
    have d0 := cell_of_row w7 _ 0 _ _ _ hg12
    have d1 := cell_of_row w7 _ 1 _ _ _ hg12
    have d2 := cell_of_row w7 _ 2 _ _ _ hg12
    have d3 := cell_of_row w7 _ 3 _ _ _ hg12
    have d4 := cell_of_row w7 _ 4 _ _ _ hg12
    have d5 := cell_of_row w7 _ 5 _ _ _ hg12
    have b0 := cell_of_row w7 _ 0 _ _ _ hg07
    have b1 := cell_of_row w7 _ 1 _ _ _ hg07
    have b2 := cell_of_row w7 _ 2 _ _ _ hg07
    have b3 := cell_of_row w7 _ 3 _ _ _ hg07
    clear hr6 ha6 hb6 hw7 hb7 hg12 hlv hll hb17 hbs7 hg07
    unfold logCells
    unfold boxCells at HMK
    go_upto_region 10 with fail
    rw [← HW7.out]
    go_cut [9, 13, 14] from 51 to 58 (fun v9 v13 v14 wx => PgsE w7 L T (marksOf ms) (.returned (.tuple #[v13, v14, v9])) wx)
    case first => as_aux_lemma =>
      have HB78 := Lib.hid ((Below.refl w7.heap.size w7).drew)
      go_region_held (fun w' => w'.cell? ⟨w.heap.size, 0, none⟩ = some (.string nm) ∧ w'.cell? ⟨w.heap.size, 1, none⟩ = some (.int .u32 (ep : Int)) ∧ w'.cell? ⟨w.heap.size, 2, none⟩ = some (.int .u32 (nx : Int)) ∧ w'.cell? ⟨w.heap.size, 3, none⟩ = some (.slice A k c) ∧ w'.cell? ⟨w6.heap.size, 0, none⟩ = some (.string L.name) ∧ w'.cell? ⟨w6.heap.size, 1, none⟩ = some (.int .u32 (L.epoch : Int)) ∧ w'.cell? ⟨w6.heap.size, 2, none⟩ = some (.int .u32 (L.next : Int)) ∧ w'.cell? ⟨w6.heap.size, 3, none⟩ = some (.slice A6 n6 c6) ∧ w'.cell? ⟨w6.heap.size, 4, none⟩ = some (.int .i64 (T : Int)) ∧ w'.cell? ⟨w6.heap.size, 5, none⟩ = some (.bool (cleanS L)))
        (exact ⟨b0, b1, b2, b3, d0, d1, d2, d3, d4, d5⟩)
        (first
          | (go_at_call 129; refine HMK.out.mono ?_; rintro e w8 ⟨M5, kc5, rfl, hmr, hb8⟩; have hb78 : Below w7.heap.size w7 w8 := (Below.refl w7.heap.size w7).drew.trans hb8; have HLV8 := Lib.hid (HLV.out.below hb78); have HMR8 := Lib.hid hmr.read; have HE8 := Lib.hid ((HE.out.below HBS7.out).below hb78); have HB78 := Lib.hid hb78; have d0 := cell_later hb78 d0; have d1 := cell_later hb78 d1; have d2 := cell_later hb78 d2; have d3 := cell_later hb78 d3; have d4 := cell_later hb78 d4; have d5 := cell_later hb78 d5; have b0 := cell_later hb78 b0; have b1 := cell_later hb78 b1; have b2 := cell_later hb78 b2; have b3 := cell_later hb78 b3; clear hmr hb8 hb78)
          | (go_at_call 103; refine (pages_any L T _ M5 k kc5 (marksOf ms) w8 HLV8.out HLOK.out HLN.out HLL.out HMR8.out hk HE8.out).mono ?_; rintro e w9 hpg; have hb89 := hpg.bl; have hpg := hpg.more HB78.out; obtain ⟨v13, v14, v9, rfl⟩ := hpg.form; have HPG := Lib.hid hpg; have d0 := cell_later hb89 d0; have d1 := cell_later hb89 d1; have d2 := cell_later hb89 d2; have d3 := cell_later hb89 d3; have d4 := cell_later hb89 d4; have d5 := cell_later hb89 d5; have b0 := cell_later hb89 b0; have b1 := cell_later hb89 b1; have b2 := cell_later hb89 b2; have b3 := cell_later hb89 b3; clear hpg hb89))
      all_goals
        go_wp2_with fail
        go_meet
        exact HPG.out
    case rest =>
      have hbsC : ∀ wx, Below w7.heap.size w7 wx → Below w0'.heap.size w0' wx := fun wx hbx => HBS7.out.trans (hbx.mono HBS7.out.size)
      unfold PgsE at hcut
      cases hpo : pagesOk L T (marksOf ms)
      · as_aux_lemma =>
        rw [hpo, if_neg (by decide)] at hcut
        obtain ⟨v, v', z, hz, he, hbx⟩ := hcut
        simp only [Ending.returned.injEq, Value.tuple.injEq, Array.mk.injEq, List.cons.injEq, and_true] at he
        obtain ⟨rfl, rfl, rfl⟩ := he
        have hz' : (z != 0) = true := by simpa using hz
        have HZ := Lib.hid hz
        have HB := Lib.hid (HBS.out.trans ((hbsC _ hbx).mono HBS.out.size))
        clear hz hbx hpo b0 b1 b2 b3 d0 d1 d2 d3 d4 d5
        go_wp2_with fail
        go_ret
        exact .inl ⟨z, HZ.out, rfl, HB.out⟩
      · rw [hpo, if_pos rfl] at hcut
        obtain ⟨P1, p1, q1, P2, p2, q2, he, ho1, ho2, hbx⟩ := hcut
        simp only [Ending.returned.injEq, Value.tuple.injEq, Array.mk.injEq, List.cons.injEq, and_true] at he
        obtain ⟨rfl, rfl, rfl⟩ := he
        have hpo' := hpo
        unfold pagesOk at hpo'
        rw [Bool.and_eq_true] at hpo'
        have hp1 : p1 = (flgB (flagsOf L (marksOf ms))).length := ho1.read.1.symm
        have hp2 : p2 = (idxB (ofI L T)).length := ho2.read.1.symm
        have hp1b : p1 ≤ 10000 := by rw [hp1]; have := rightFlg_bytes hpo'.1; omega
        have hp2b : p2 ≤ 10000 := by rw [hp2]; have := rightIdx_bytes hpo'.2; omega
        have hmb : (logB ns).length ≤ 5000000 := by have := HSUM.out; omega
        have hSc := HS.out.below (hbsC _ hbx)
        have c0 := hSc.c0
        have HRM := Lib.hid (room_any hSc.disk)
        have HSC := Lib.hid hSc
        have HPO := Lib.hid hpo
        have HP1 := Lib.hid hp1
        have HP2 := Lib.hid hp2
        have HBX := Lib.hid hbx
        have HBSC := Lib.hid (hbsC _ hbx)
        have hfits := hSc.disk.fits
        have hmost := hSc.disk.most
        clear ho1 ho2 hp1 hp2 hpo hpo' hbx hSc b0 b1 b2 b3 d0 d1 d2 d3 d4 d5 hbsC
        go_wp2_with fail
        refine HRM.out.mono ?_
        rintro e wd ⟨rfl, hbd⟩
        have HBD := Lib.hid hbd
        have HSD := Lib.hid (HSC.out.below hbd)
        have c0 := (HSC.out.below hbd).c0
        clear hbd
        by_cases hroom : cap - F.total < (logB ns).length + p1 + p2
        · have hroom' : ((cap - F.total : Nat) : Int) < ((logB ns).length : Int) + (p1 : Int) + (p2 : Int) := by omega
          go_wp2_with fail
          go_ret
          exact .inl ⟨4, by decide, rfl, HBS.out.trans (((HBSC.out.trans (HBD.out.mono HBSC.out.size))).mono HBS.out.size)⟩
        · have hroom' : ¬ ((cap - F.total : Nat) : Int) < ((logB ns).length : Int) + (p1 : Int) + (p2 : Int) := by omega
          have HROOM : Hid (F.total + (logB ns).length + p1 + p2 ≤ cap) := by show _ ≤ _; omega
          go_wp2_with fail
          have hwd1 : Below w1.heap.size w1 wd := HB17.out.trans ((HBX.out.trans (HBD.out.mono HBX.out.size)).mono HB17.out.size)
          have HRWD := Lib.hid (HSr1.out.below hwd1)
          have HOWD : Hid (All2 (OwnS wd w0'.heap.size) ss ns) := HSa1.out.mono (fun s y ⟨B', m', d', h1, h2⟩ => ⟨B', m', d', h1, h2.only (Only.of_below hwd1 (fun _ => False)) (fun _ _ h => h)⟩)
          have hgm : g < w0'.heap.size ∧ m < w0'.heap.size := HS.out.disk.lt
          have hgm1 := hgm.1
          have hgm2 := hgm.2
          have hnsl : ns.length ≤ 1000000 := by have := HNL.out; omega
          have hap := HS.out.apart
          obtain ⟨ap1, ap2, ap3, ap4, ap5⟩ := hap
          have HD := Lib.hid HSD.out.disk
          clear hwd1 hgm
          go_loopw [80] (fun v80 wr => ∃ (i : Nat) (Fi : DiskF), i ≤ ns.length ∧ v80 = .int .i64 (i : Int) ∧ DiskS wr g m cap Fi ∧ (∀ s, AL.get Fi s = if s = logN n then some ⟨logB (B.ns ++ ns.take i), (logB B.ns).length, true⟩ else AL.get F s) ∧ Fi.total = F.total + (logB (ns.take i)).length ∧ Only (DB g m) wd wr) (fun v80 _ => ns.length - (intOf v80).toNat)
          case atStart =>
            refine ⟨0, F, Nat.zero_le _, rfl, HD.out, fun s => ?_, rfl, Only.refl _ _⟩
            rw [List.take_zero, List.append_nil]
            split
            · rename_i e; rw [e]; exact HLOG.out
            · rfl
          case round => as_aux_lemma =>
            obtain ⟨i, Fi, hi, rfl, hdi, hgi, hti, hoi⟩ := hrel
            have HDI := Lib.hid hdi
            have HGI := Lib.hid hgi
            have HTI := Lib.hid hti
            have HOI := Lib.hid hoi
            have c0r : wr.cell? ⟨gs, 0, none⟩ = some (.pointer (some ⟨g, 0, none⟩)) := hoi.cell c0 (fun e => by rcases e with e | e <;> simp only at e <;> omega)
            clear hdi hgi hti hoi
            by_cases hlt : i < ns.length
            · have hrwr := HRWD.out.only HOI.out (fun q hq e => by have := (HRWD.out.lt q hq).1; rcases e with e | e <;> omega)
              obtain ⟨gA, v, hAe, hv, -, hc⟩ := hrwr.read.at_ hlt
              subst hAe
              obtain ⟨x, hx⟩ : ∃ x, ns[i]? = some x := ⟨_, List.getElem?_eq_getElem hlt⟩
              obtain ⟨s0, hs0, Bq, mq, dq, rfl, hoq⟩ := HOWD.out.at_ hx
              have hvv : v = sV (.slice Bq mq dq) := by
                rw [List.getElem?_map, hs0] at hv
                injection hv with hv
                exact hv.symm
              subst hvv
              have hcell : wr.cell? ⟨gA, i, none⟩ = some (.slice Bq mq dq) := by have := hc 0 _ rfl; rwa [Nat.mul_one, Nat.add_zero] at this
              have hrbq := hoq.read.keep HOI.out HD.out.noB
              have hlex : (logB (ns.take (i + 1))).length = (logB (ns.take i)).length + mq := by
                obtain ⟨h1, h2⟩ := List.getElem?_eq_some_iff.1 hx
                rw [List.take_succ_eq_append_getElem h1, h2, logB_append, List.length_append, ← hoq.read.1, logB_flat [x], List.flatMap_cons, List.flatMap_nil, List.append_nil]
              have hlex2 : (logB (ns.take (i + 1))).length ≤ (logB ns).length := by
                have := congrArg List.length (logB_append (ns.take (i + 1)) (ns.drop (i + 1)))
                rw [List.take_append_drop, List.length_append] at this
                omega
              have hbytes : logB (B.ns ++ ns.take (i + 1)) = logB (B.ns ++ ns.take i) ++ frB x := by
                obtain ⟨h1, h2⟩ := List.getElem?_eq_some_iff.1 hx
                rw [List.take_succ_eq_append_getElem h1, h2, ← List.append_assoc, logB_append (B.ns ++ ns.take i) [x], logB_flat [x], List.flatMap_cons, List.flatMap_nil, List.append_nil]
              have hAP := append_any HDI.out HR1.out hrbq hoq.le (by rw [HTI.out]; have := HROOM.out; omega)
              have hgl : AL.get Fi (logN n) = some ⟨logB (B.ns ++ ns.take i), (logB B.ns).length, true⟩ := by rw [HGI.out, if_pos rfl]
              rw [hgl] at hAP
              have HAP := Lib.hid hAP
              have HLEX := Lib.hid hlex
              have HBY := Lib.hid hbytes
              have HGL := Lib.hid hgl
              have HMQ := Lib.hid hoq.read.1
              clear hrwr hv hc hx hs0 hoq hrbq hlex hlex2 hbytes hAP hgl c0
              go_wp2_with fail
              refine HAP.out.mono ?_
              rintro e we ⟨rfl, F5, hd5, hu5, ho5⟩
              have HD5 := Lib.hid hd5
              have HU5 := Lib.hid hu5
              have HO5 := Lib.hid (HOI.out.trans ho5 (fun _ _ h => h))
              clear hd5 hu5 ho5
              go_wp2_with fail
              refine ⟨⟨i + 1, F5, hlt, by first | rfl | (congr 1), HD5.out, fun s => ?_, ?_, HO5.out⟩, by simp [intOf]; omega⟩
              · rw [HU5.out s]
                by_cases hsl : s = logN n
                · rw [if_pos hsl, if_pos hsl, HBY.out]; rfl
                · rw [if_neg hsl, if_neg hsl, HGI.out s, if_neg hsl]
              · have h1 := HU5.out.total HDI.out.nodup HD5.out.nodup
                rw [HGL.out] at h1
                have e1 : lenF (some (⟨logB (B.ns ++ ns.take i), (logB B.ns).length, true⟩ : FileS)) = (logB (B.ns ++ ns.take i)).length := rfl
                have e2 : lenF (some (grownF (some ⟨logB (B.ns ++ ns.take i), (logB B.ns).length, true⟩) (frB x))) = (logB (B.ns ++ ns.take i) ++ frB x).length := rfl
                rw [e1, e2, List.length_append, HMQ.out] at h1
                rw [HLEX.out]
                have := HTI.out
                omega
            · have hin : i = ns.length := by omega
              subst hin
              rw [List.take_length] at HGI HTI
              have hSY := sync_any HDI.out (right_size HR1.out) (by rw [HGI.out, if_pos rfl])
              have HSY := Lib.hid hSY
              clear hSY
              go_upto_if 97 with fail
              go_cut [] from 97 to 106 (fun wx => ∃ F3, DiskS wx g m cap F3 ∧ Upd F F3 (logN n) (some (safeF (logB (B.ns ++ ns)))) ∧ F3.total = F.total + (logB ns).length ∧ Only (DB g m) wd wx)
              case first => as_aux_lemma =>
                by_cases hz : 0 < ns.length
                · have hz' : (0 : Int) < (ns.length : Int) := by omega
                  go_wp2_with fail
                  refine HSY.out.mono ?_
                  rintro e we ⟨rfl, F5, hd5, hu5, ho5⟩
                  have HD5 := Lib.hid hd5
                  have HU5 := Lib.hid hu5
                  have HO5 := Lib.hid (HOI.out.trans ho5 (fun _ _ h => h))
                  clear hd5 hu5 ho5
                  go_wp2_with fail
                  go_meet
                  refine ⟨F5, HD5.out, fun s => ?_, ?_, HO5.out⟩
                  · rw [HU5.out s]
                    split
                    · rfl
                    · rename_i hs; rw [HGI.out s, if_neg hs]
                  · have h1 := HU5.out.total HDI.out.nodup HD5.out.nodup
                    rw [HGI.out, if_pos rfl] at h1
                    have h2 : F5.total = AL.total Fi := Nat.add_right_cancel h1
                    rw [h2, HTI.out]
                · have hz' : ¬ (0 : Int) < (ns.length : Int) := by omega
                  have hn0 : ns = [] := List.length_eq_zero_iff.1 (by omega)
                  have HN0 := Lib.hid hn0
                  clear hn0
                  go_wp2_with fail
                  go_meet
                  refine ⟨Fi, HDI.out, fun s => ?_, HTI.out, HOI.out⟩
                  rw [HGI.out s]
                  split
                  · rw [HN0.out, List.append_nil]; rfl
                  · rfl
              case rest => as_aux_lemma =>
                obtain ⟨F3, hd3, hu3, ht3, ho3⟩ := hcut
                have hx7d : Below w7.heap.size w7 wd := HBX.out.trans (HBD.out.mono HBX.out.size)
                have hwl : w.heap.size < w0'.heap.size := (Array.getElem?_eq_some_iff.1 HG0.out).1
                have hwg := HGMW.out
                have h06 := H06.out
                have hB : wc.heap[w.heap.size]? = some (.cells #[.string nm, .int .u32 (ep : Int), .int .u32 (nx : Int), .slice A k c] 49 (0, 0)) :=
                  ho3.heap ((hx7d.block _ (Array.getElem?_eq_some_iff.1 HG07.out).1).trans HG07.out) (fun e => by rcases e with e | e <;> omega)
                have hL : wc.heap[w6.heap.size]? = some (.cells #[.string L.name, .int .u32 (L.epoch : Int), .int .u32 (L.next : Int), .slice A6 n6 c6, .int .i64 (T : Int), .bool (cleanS L)] 87 (0, 0)) :=
                  ho3.heap ((hx7d.block _ (Array.getElem?_eq_some_iff.1 HG12.out).1).trans HG12.out) (fun e => by rcases e with e | e <;> omega)
                have c0 : wc.cell? ⟨gs, 0, none⟩ = some (.pointer (some ⟨g, 0, none⟩)) := ho3.cell c0 (fun e => by rcases e with e | e <;> simp only at e <;> omega)
                have b0 : wc.cell? ⟨w.heap.size, 0, none⟩ = some (.string nm) := cell_of_row wc _ 0 _ _ _ hB
                have b1 : wc.cell? ⟨w.heap.size, 1, none⟩ = some (.int .u32 (ep : Int)) := cell_of_row wc _ 1 _ _ _ hB
                have b2 : wc.cell? ⟨w.heap.size, 2, none⟩ = some (.int .u32 (nx : Int)) := cell_of_row wc _ 2 _ _ _ hB
                have b3 : wc.cell? ⟨w.heap.size, 3, none⟩ = some (.slice A k c) := cell_of_row wc _ 3 _ _ _ hB
                have d0 : wc.cell? ⟨w6.heap.size, 0, none⟩ = some (.string L.name) := cell_of_row wc _ 0 _ _ _ hL
                have d1 : wc.cell? ⟨w6.heap.size, 1, none⟩ = some (.int .u32 (L.epoch : Int)) := cell_of_row wc _ 1 _ _ _ hL
                have d2 : wc.cell? ⟨w6.heap.size, 2, none⟩ = some (.int .u32 (L.next : Int)) := cell_of_row wc _ 2 _ _ _ hL
                have d3 : wc.cell? ⟨w6.heap.size, 3, none⟩ = some (.slice A6 n6 c6) := cell_of_row wc _ 3 _ _ _ hL
                have d4 : wc.cell? ⟨w6.heap.size, 4, none⟩ = some (.int .i64 (T : Int)) := cell_of_row wc _ 4 _ _ _ hL
                have d5 : wc.cell? ⟨w6.heap.size, 5, none⟩ = some (.bool (cleanS L)) := cell_of_row wc _ 5 _ _ _ hL
                obtain ⟨LN, hl1, hl2⟩ := HSD.out.names
                have hm1 := ho3.cell HSD.out.c1 (fun e => by rcases e with e | e <;> simp only at e <;> omega)
                have hl1 := hl1.only ho3 (fun e => by rcases e with e | e <;> omega)
                have hnz : nm.size ≤ 1000000 := by
                  rw [← HBN.out]
                  have h60 : (readS B.ns).name.size ≤ 60 := readS_nsize HWH.out.formed
                  show (readS B.ns).name.size ≤ _
                  omega
                have hnu := numOf_mem HG.out.apart HMEM.out HG.out.up
                rw [HBN.out] at hnu
                have hNC : ∀ wx, Below wc.heap.size wc wx → Calls Tryz.prog 61 #[.pointer (some ⟨gs, 0, none⟩), .string nm] wx fun e w' => e = .returned (.int .i64 (n : Int)) ∧ w' = wx := fun wx hb => by
                  have := number_at (cell_later hb hm1) (hl1.below hb) hl2 nm hnz
                  rw [hnu] at this
                  exact this
                have h0d : Below w0'.heap.size w0' wd := HBS7.out.trans (hx7d.mono HBS7.out.size)
                have hrc : RowR wc A k 4 vs := HD.out.msgs ho3 (HR.out.below h0d) HX.out
                have hMC : ∀ wx, Below wc.heap.size wc wx → Calls Tryz.prog 129 #[.agg #[.string nm, .int .u32 (ep : Int), .int .u32 (nx : Int), .slice A k c]] wx (MarksE wx k ms) := fun wx hb => marks_any nm ep nx A k c vs ms wx (hrc.below hb) HX.out hk
                have h15 : w0'.heap.size ≤ w5.heap.size := Nat.le_trans HB1.out.size HB15.out.size
                have hold := HS.out.old
                have hlv : LogV wc (.agg #[.string L.name, .int .u32 (L.epoch : Int), .int .u32 (L.next : Int), .slice A6 n6 c6, .int .i64 (T : Int), .bool (cleanS L)]) L T :=
                  ⟨A6, n6, c6, vs6, rfl, (HR6.out.below hx7d).read.only ho3 (fun q hq e => by have := (HR6.out.lt q hq).1; rcases e with e | e <;> omega), (HA6.out.mono (LiveR.below hx7d)).mono (LiveR.keep ho3 HD.out.noB)⟩
                have hec : Env wc := (HE.out.below h0d).only ho3 (fun b e => by rcases e with e | e <;> omega)
                have hnew : AL.get F3 newN = none := by rw [hu3.other (new_log n hn16)]; exact HG.out.new
                have hfit : F3.total + (flgB (flagsOf L (marksOf ms))).length + (idxB (ofI L T)).length ≤ cap := by rw [← HP1.out, ← HP2.out, ht3]; exact HROOM.out
                have hPC : ∀ wx M kc, Below wc.heap.size wc wx → RowR wx M k 2 ((marksOf ms).map markV) → Calls Tryz.prog 42 #[.pointer (some ⟨g, 0, none⟩), .int .i64 (n : Int), .agg #[.string L.name, .int .u32 (L.epoch : Int), .int .u32 (L.next : Int), .slice A6 n6 c6, .int .i64 (T : Int), .bool (cleanS L)], .slice M k kc] wx (PagesE wx g m cap F3 n (flgB (flagsOf L (marksOf ms))) (idxB (ofI L T))) :=
                  fun wx M kc hb hr => pagesf_any (hd3.below hb) n hn16 hnew L T _ M k kc (marksOf ms) (hlv.below hb) HLOK.out HLN.out HLL.out hr hk (hec.below hb) HPO.out hfit
                have hfar : ∀ q, q < wc.heap.size → (q = gs ∨ q = w.heap.size ∨ q = w6.heap.size) → ¬ DB g m q := fun q _ hq e => by rcases e with e | e <;> rcases hq with h | h | h <;> omega
                have hgsl : gs < wc.heap.size := World.block_lt_of_cell? _ _ c0
                have HNC := Lib.hid hNC
                have HMC := Lib.hid hMC
                have HPC := Lib.hid hPC
                have HFAR : Hid (∀ q, (q = gs ∨ q = w.heap.size ∨ q = w6.heap.size) → ¬ DB g m q) := fun q hq e => by rcases e with e | e <;> rcases hq with h | h | h <;> omega
                have HO3 := Lib.hid ho3
                have HU3 := Lib.hid hu3
                have HBW := Lib.hid ((Below.refl wc.heap.size wc).drew)
                clear hd3 hu3 ht3 ho3 hx7d hwl hwg h06 hB hL hl1 hl2 hm1 hnz hnu hNC h0d hrc hMC h15 hold hlv hec hnew hfit hPC hfar hgsl ap1 ap2 ap3 ap4 ap5
                go_wp2_with fail
                go_region_held (fun w' => w'.cell? ⟨gs, 0, none⟩ = some (.pointer (some ⟨g, 0, none⟩)) ∧ w'.cell? ⟨w.heap.size, 0, none⟩ = some (.string nm) ∧ w'.cell? ⟨w.heap.size, 1, none⟩ = some (.int .u32 (ep : Int)) ∧ w'.cell? ⟨w.heap.size, 2, none⟩ = some (.int .u32 (nx : Int)) ∧ w'.cell? ⟨w.heap.size, 3, none⟩ = some (.slice A k c) ∧ w'.cell? ⟨w6.heap.size, 0, none⟩ = some (.string L.name) ∧ w'.cell? ⟨w6.heap.size, 1, none⟩ = some (.int .u32 (L.epoch : Int)) ∧ w'.cell? ⟨w6.heap.size, 2, none⟩ = some (.int .u32 (L.next : Int)) ∧ w'.cell? ⟨w6.heap.size, 3, none⟩ = some (.slice A6 n6 c6) ∧ w'.cell? ⟨w6.heap.size, 4, none⟩ = some (.int .i64 (T : Int)) ∧ w'.cell? ⟨w6.heap.size, 5, none⟩ = some (.bool (cleanS L)))
                  (exact ⟨c0, b0, b1, b2, b3, d0, d1, d2, d3, d4, d5⟩)
                  (first
                    | (go_at_call 61; refine (HNC.out _ HBW.out).mono ?_; rintro e wn ⟨rfl, rfl⟩)
                    | (go_at_call 129; refine (HMC.out _ HBW.out).mono ?_; rintro e wb ⟨M5, kc5, rfl, hmr, hbb⟩; have HBW := Lib.hid (HBW.out.trans (hbb.mono HBW.out.size)); have HMR := Lib.hid hmr.read; have c0 := cell_later hbb c0; have b0 := cell_later hbb b0; have b1 := cell_later hbb b1; have b2 := cell_later hbb b2; have b3 := cell_later hbb b3; have d0 := cell_later hbb d0; have d1 := cell_later hbb d1; have d2 := cell_later hbb d2; have d3 := cell_later hbb d3; have d4 := cell_later hbb d4; have d5 := cell_later hbb d5; clear hmr hbb)
                    | (go_at_call 42; refine (HPC.out _ M5 kc5 HBW.out HMR.out).mono ?_; rintro e w9 ⟨rfl, F9, hd9, htw, ho9⟩; have c0 := ho9.cell c0 (HFAR.out _ (.inl rfl)); have b0 := ho9.cell b0 (HFAR.out _ (.inr (.inl rfl))); have b1 := ho9.cell b1 (HFAR.out _ (.inr (.inl rfl))); have b2 := ho9.cell b2 (HFAR.out _ (.inr (.inl rfl))); have b3 := ho9.cell b3 (HFAR.out _ (.inr (.inl rfl))); have d0 := ho9.cell d0 (HFAR.out _ (.inr (.inr rfl))); have d1 := ho9.cell d1 (HFAR.out _ (.inr (.inr rfl))); have d2 := ho9.cell d2 (HFAR.out _ (.inr (.inr rfl))); have d3 := ho9.cell d3 (HFAR.out _ (.inr (.inr rfl))); have d4 := ho9.cell d4 (HFAR.out _ (.inr (.inr rfl))); have d5 := ho9.cell d5 (HFAR.out _ (.inr (.inr rfl))); have HD9 := Lib.hid hd9; have HTW := Lib.hid htw; have HO9 := Lib.hid (HO3.out.trans ((Only.of_below HBW.out (DB g m)).trans ho9 (fun _ _ h => h)) (fun _ _ h => h)); clear hd9 htw ho9))
                all_goals
                  go_wp2_with fail
                  go_ret
                  have h0d : Below w0'.heap.size w0' wd := HBS7.out.trans ((HBX.out.trans (HBD.out.mono HBX.out.size)).mono HBS7.out.size)
                  have honly : Only (DB g m) w w9 := ((Only.of_below (HBS.out.trans (h0d.mono HBS.out.size)) (DB g m)).trans HO9.out (fun _ _ h => h))
                  have htw := HTW.out
                  have hpo := HPO.out
                  rw [← HL.out, ← HT.out] at htw hpo
                  have hlaid : Laid F F9 n (B.more ns (marksOf ms)) := Two.laid (b := B.more ns (marksOf ms)) HU3.out htw
                  have hname : (B.more ns (marksOf ms)).l.name = B.l.name := (readS_name HBN.out HNM.out).trans HBN.out.symm
                  have hrest := HREST.out.laid HMEM.out hlaid (whole_more HWH.out.formed HFORM.out hpo) hname
                  exact .inr ⟨rfl, F9, HS.out.turn HD9.out ((Only.of_below h0d (DB g m)).trans HO9.out (fun _ _ h => h)) hrest (numOf_turn HG.out.up HMEM.out hname), hlaid, honly⟩
end Go.Proofs.YtlhaempecidohaaGreatDoor
