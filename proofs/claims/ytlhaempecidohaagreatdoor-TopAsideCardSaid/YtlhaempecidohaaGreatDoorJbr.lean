/-
  Package store: roomy. Package store: Create. Package store: what a note leaves of a store; how long notes are. Package store: Append. Package store: Store, Expunge.
-/
import Derived.Test.YtlhaempecidohaaGreatDoorJbo
import Derived.Test.YtlhaempecidohaaGreatDoorJbq
import Derived.Test.YtlhaempecidohaaGreatDoorJbc
import Derived.Test.YtlhaempecidohaaGreatDoorJbd
import Derived.Test.YtlhaempecidohaaGreatDoorJbe
set_option linter.unusedSimpArgs false
set_option linter.unusedVariables false
namespace Go.Proofs.YtlhaempecidohaaGreatDoor
open Go.RowKit
theorem laid_put (F : DiskF) (n : Nat) (b : BoxSt) : Laid F (AL.put (AL.put (AL.put F (logN n) (safeF (logB b.ns))) (flgN n) (safeF (flgB b.f))) (idxN n) (safeF (idxB b.idx))) n b := fun s => by
  rw [AL.get_put, AL.get_put, AL.get_put]
theorem Rest.moreTree {F : DiskF} {bs : Boxes} (h : Rest F bs) (h16 : bs.length < 16) {b : BoxSt} (hw : Whole b.ns b.f) (hnew : b.l.name ∉ bs.map fun p => p.2.l.name) : TreeOK (Boxes.places (bs ++ [(bs.length, b)])) :=
  (h.more h16 (laid_put F bs.length b) hw hnew (Upd.put _ _ _)).good.treeOK
theorem places_snoc (bs : Boxes) (n : Nat) (nm : ByteArray) : Boxes.places (bs ++ [(n, BoxSt.first nm)]) = bs.places ++ [(n, nm)] := by
  unfold Boxes.places
  rw [List.map_append]
  show _ ++ [(n, (BoxSt.first nm).l.name)] = _
  rw [first_name]
set_option maxRecDepth 10000 in
set_option maxHeartbeats 4000000 in
theorem roomy_any {w : World} {gs g m mm cap : Nat} {F : DiskF} {bs : Boxes} (h : StoreS w gs g m mm cap F bs) (hE : Env w) (nm : ByteArray) (hnm : named nm = true) (hnew : nm ∉ bs.map fun p => p.2.l.name) (h16 : bs.length < 16) :
    Calls Tryz.prog 64 #[.pointer (some ⟨gs, 0, none⟩), .int .i64 (bs.length : Int), .string nm] w fun e w' => (∃ b, e = .returned (.bool b) ∧ (b = true → F.total + firstLen nm + (treeB (bs.places ++ [(bs.length, nm)])).length ≤ cap)) ∧ Below w.heap.size w w' := by
  obtain ⟨hf, hw⟩ := first_formed hnm (firstN nm) (by simp)
  have hFr := frame_note (firstN nm) none 0 0 hf hw w (RB.nil _ _) hE
  have hfb : frameB (firstN nm).kind.toNat (encode (firstN nm)) = logB [firstN nm] := first_bytes nm
  rw [hfb] at hFr
  have hl200 := first_len hnm
  have hfm := first_formed hnm
  have hpo := first_ok hnm
  have hrs := first_read nm
  have hns : (readS [firstN nm]).name.size ≤ 1000000 := by rw [hrs]; have := named_size hnm; show nm.size ≤ _; omega
  have hlv0 : (readS [firstN nm]).live.length ≤ 10000000 := by rw [hrs]; exact Nat.zero_le _
  have hfl : firstLen nm = (logB [firstN nm]).length + (flgB (flagsOf (readS [firstN nm]) [])).length + (idxB (ofI (readS [firstN nm]) (logB [firstN nm]).length)).length := rfl
  have htr := h.rest.moreTree h16 (first_whole hnm) (by rw [first_name]; exact hnew)
  rw [places_snoc] at htr
  obtain ⟨NS, hNS⟩ : ∃ NS, NS = [firstN nm] := ⟨_, rfl⟩
  rw [← hNS] at hFr hl200 hfm hpo hns hlv0 hfl
  have HFL := Lib.hid hfl
  have HFM := Lib.hid hfm
  have HPO := Lib.hid hpo
  have HTR := Lib.hid htr
  have H := Lib.hid h
  have HE := Lib.hid hE
  have c0 := h.c0
  have HGSL : Hid (gs < w.heap.size) := World.block_lt_of_cell? _ _ h.c0
  have HFR := Lib.hid hFr
  have hpl : bs.places.length = bs.length := by unfold Boxes.places; rw [List.length_map]
  have HPL := Lib.hid hpl
  have hN : ∃ N, bs.length = N := ⟨_, rfl⟩
  obtain ⟨N, hN⟩ := hN
  have HN : Hid (bs.length = N) := hN
  rw [hN] at h16 HTR ⊢
  unfold noteV noteCells msgCells firstN at HFR
  dsimp only [List.cons_append, List.nil_append] at HFR
  clear hFr hf hw h hE hnm hfb hNS hrs hpo hfm hfl htr hpl hnew hN
  go_enter Tryz.func64, Tryz.ntmps64
  go_wp2_with fail
  refine HFR.out.mono ?_
  rintro e w1 ⟨A1, n1, c1, rfl, hown, hb1⟩
  have hn1 : n1 = (logB NS).length := hown.read.1.symm
  have hn1b : n1 ≤ 200 := by rw [hn1]; exact hl200
  have HRD := Lib.hid (read_any A1 n1 c1 NS w1 HFM.out hown.read hown.le (by omega) (HE.out.below hb1))
  have HN1 := Lib.hid hn1
  have HB1 := Lib.hid hb1
  have c0 := cell_later hb1 c0
  clear hown hb1 HFR hn1
  go_wp2_with fail
  refine HRD.out.mono ?_
  rintro e w4 ⟨A4, n4, c4, vs4, rfl, hr4, ha4, hb4⟩
  have hlv : LogV w4 (.agg (logCells (readS NS) (.slice A4 n4 c4) (n1 : Int) (cleanS (readS NS))).toArray) (readS NS) (logB NS).length := by
    rw [← HN1.out]
    exact ⟨A4, n4, c4, vs4, rfl, hr4.read, ha4.mono LiveA.r⟩
  have hb14 := HB1.out.trans (hb4.mono HB1.out.size)
  have HPG := Lib.hid (pages_any (readS NS) (logB NS).length _ none 0 0 [] w4 hlv (readS_ok HFM.out) hns hlv0 (RowR.nil _ _ _) (by omega) (HE.out.below hb14))
  have HB4 := Lib.hid hb14
  have c0 := cell_later hb4 c0
  clear hr4 ha4 hb4 hlv hb14 HRD
  go_wp2_with fail
  refine HPG.out.mono ?_
  rintro e w5 hpg
  unfold PgsE at hpg
  rw [if_pos HPO.out] at hpg
  obtain ⟨P1, p1, q1, P2, p2, q2, rfl, ho1, ho2, hb5⟩ := hpg
  have hpo' := HPO.out
  unfold pagesOk at hpo'
  rw [Bool.and_eq_true] at hpo'
  have hp1 : p1 = (flgB (flagsOf (readS NS) [])).length := ho1.read.1.symm
  have hp2 : p2 = (idxB (ofI (readS NS) (logB NS).length)).length := ho2.read.1.symm
  have hp1b : p1 ≤ 10000 := by rw [hp1]; have := rightFlg_bytes hpo'.1; omega
  have hp2b : p2 ≤ 10000 := by rw [hp2]; have := rightIdx_bytes hpo'.2; omega
  have HP1 := Lib.hid hp1
  have HP2 := Lib.hid hp2
  have hb15 := HB4.out.trans (hb5.mono HB4.out.size)
  have HPC := Lib.hid (places_any (H.out.disk.below hb15) H.out.rest.good (HE.out.below hb15))
  have HB5 := Lib.hid hb15
  have c0 := cell_later hb5 c0
  clear ho1 ho2 hb5 hp1 hp2 hpo' hb15 HPG
  go_wp2_with fail
  refine HPC.out.mono ?_
  rintro e w6 ⟨A6, n6, c6, rfl, hr6, hb6⟩
  have hn6 : n6 = N := by have := hr6.len; rw [List.length_map, HPL.out, HN.out] at this; exact this.symm
  have HN6 := Lib.hid hn6
  have HR6 := Lib.hid hr6
  have HB6 := Lib.hid (HB5.out.trans (hb6.mono HB5.out.size))
  have c0 := cell_later hb6 c0
  have hn6b : n6 ≤ 16 := by omega
  have h56 : w5.heap.size ≤ w6.heap.size := hb6.size
  clear hr6 hb6 HPC hn6
  go_wp2_with (at_builtin; refine wp_append_row rfl (.tmp 32) (.tmp 36) 108 113 2 _ 24 und108 inf113 rfl (by decide) (by decide) rfl rfl rfl (HR6.out.below ((Below.refl _ _).alloc (Nat.le_refl _) _)) (range_new w6 (placeV (N, nm)) 113) rfl (by simp [placeV, Value.oneCell']) (by omega) (by simp; omega) ?_; intro G5 c7 w7 hro7 ho7 hbk7; have HRO7 := Lib.hid hro7; have HO7 := Lib.hid ho7; have hb7 := (Below.refl w6.heap.size w6).alloc (Nat.le_refl _) (.cells (placeV (N, nm)).toArray 113); have HB7 := Lib.hid hb7; have c0 := ho7.cell (cell_later hb7 c0) (fun e => by have h1 : w5.heap.size ≤ gs := (HR6.out.lt _ e).1; have h2 := HGSL.out; have h3 := HB5.out.size; omega); clear hro7 ho7 hbk7 hb7)
  have hrow7 : RowO w7 w5.heap.size 113 2 G5 (n6 + 1) c7 ((bs.places ++ [(N, nm)]).map placeV) := by rw [List.map_append]; exact HRO7.out
  have hlt : ∀ p ∈ bs.places ++ [(N, nm)], p.1 < 1024 := fun p hp => by have := HTR.out.few p hp; omega
  have HSO := Lib.hid (psort_any _ hrow7 hlt HTR.out.up (by omega) (by omega))
  have HROW := Lib.hid hrow7
  have hsz5 := HB5.out.size
  have hb17 : Below w.heap.size w w7 := HB6.out.trans ((HB7.out.mono HB6.out.size).trans (HO7.out.below (Nat.le_trans HB6.out.size HB7.out.size) (fun b hb e => by have h1 := (HR6.out.lt _ e).1; omega)))
  have HB17 := Lib.hid hb17
  clear hrow7 hlt HRO7 hb17 HB7 HO7
  refine HSO.out.mono ?_
  rintro e w8 ⟨rfl, hb8⟩
  have hb18 := HB17.out.trans (hb8.mono HB17.out.size)
  have HPT := Lib.hid (putTree_any _ G5 (n6 + 1) c7 w8 (HROW.out.read.below hb8) HROW.out.le HTR.out (HE.out.below hb18))
  have HB18 := Lib.hid hb18
  have c0 := cell_later hb8 c0
  clear hb8 hb18 HSO
  go_wp2_with fail
  refine HPT.out.mono ?_
  rintro e w9 ⟨A9, n9, c9, rfl, hown9, hb9⟩
  have hn9 : n9 = (treeB (bs.places ++ [(N, nm)])).length := hown9.read.1.symm
  have hn9b : n9 ≤ 1200 := by rw [hn9]; unfold treeB; rw [page_length]; have := treeP_len HTR.out; omega
  have HN9 := Lib.hid hn9
  have hb19 := HB18.out.trans (hb9.mono HB18.out.size)
  have HRM := Lib.hid (room_any (H.out.disk.below hb19))
  have HB9 := Lib.hid hb19
  have c0 := cell_later hb9 c0
  have hft := H.out.disk.fits
  have hmo := H.out.disk.most
  clear hown9 hb9 hn9 hb19 HPT
  go_wp2_with fail
  refine HRM.out.mono ?_
  rintro e wa ⟨rfl, hba⟩
  have HBA := Lib.hid (HB9.out.trans (hba.mono HB9.out.size))
  clear hba
  by_cases hroom : n1 + p1 + p2 + n9 ≤ cap - F.total
  · have hroom' : (n1 : Int) + (p1 : Int) + (p2 : Int) + (n9 : Int) ≤ ((cap - F.total : Nat) : Int) := by omega
    go_wp2_with fail
    go_ret
    refine ⟨⟨true, ?_, fun _ => ?_⟩, HBA.out⟩
    · first | rfl | simp [hroom']
    · have a1 := HFL.out
      have a2 := HN1.out
      have a3 := HP1.out
      have a4 := HP2.out
      have a5 := HN9.out
      omega
  · have hroom' : ¬ ((n1 : Int) + (p1 : Int) + (p2 : Int) + (n9 : Int) ≤ ((cap - F.total : Nat) : Int)) := by omega
    go_wp2_with fail
    go_ret
    refine ⟨⟨false, ?_, fun h => by cases h⟩, HBA.out⟩
    first | rfl | simp [hroom']
end Go.Proofs.YtlhaempecidohaaGreatDoor
namespace Go.Proofs.YtlhaempecidohaaGreatDoor
open Go.RowKit
/-- the blocks of a store that turn -/
def SB (g m mm : Nat) (b : Nat) : Prop := b = g ∨ b = m ∨ b = mm
/-- what is left of a store behind something done: it holds mailboxes that are whole -/
def DidS (w : World) (gs g m mm cap : Nat) (F : DiskF) (w' : World) : Prop := ∃ F' bs', StoreS w' gs g m mm cap F' bs' ∧ F'.total ≤ F.total + 1300000 ∧ Only (SB g m mm) w w'
theorem DidS.of_below {w w' : World} {gs g m mm cap : Nat} {F : DiskF} {bs : Boxes} (h : StoreS w gs g m mm cap F bs) (hb : Below w.heap.size w w') : DidS w gs g m mm cap F w' := ⟨F, bs, h.below hb, Nat.le_add_right _ _, Only.of_below hb _⟩
def CreateE (w : World) (gs g m mm cap : Nat) (F : DiskF) (e : Ending) (w' : World) : Prop := (∃ z : Int, e = .returned (.int .i64 z)) ∧ DidS w gs g m mm cap F w'
set_option maxRecDepth 10000 in
set_option maxHeartbeats 4000000 in
theorem create_any {w : World} {gs g m mm cap : Nat} {F : DiskF} {bs : Boxes} (h : StoreS w gs g m mm cap F bs) (hE : Env w) (nm : ByteArray) (hs : nm.size ≤ 1000000) :
    Calls Tryz.prog 20 #[.pointer (some ⟨gs, 0, none⟩), .string nm] w (CreateE w gs g m mm cap F) := by
  have H := Lib.hid h
  have HE := Lib.hid hE
  have HMN := Lib.hid (mnew_any nm w hs hE)
  have HS := Lib.hid hs
  clear h hE
  go_enter Tryz.func20, Tryz.ntmps20
  go_wp2_with fail
  refine HMN.out.mono ?_
  rintro e w1 ⟨s1, x1, y1, rfl, hb1⟩
  obtain ⟨zq, hzq⟩ : ∃ z : Int, (if named nm = true then (0 : Int) else 1) = z := ⟨_, rfl⟩
  rw [hzq]
  have HZQ := Lib.hid hzq
  clear hzq
  obtain ⟨w2, hw2⟩ : ∃ w2, w2 = w1.alloc (.cells #[.string s1, .int .u32 x1, .int .u32 y1, .slice none 0 0] 49) := ⟨_, rfl⟩
  have hb2 : Below w.heap.size w w2 := by rw [hw2]; exact hb1.trans ((Below.refl _ _).alloc hb1.size _)
  have hS := H.out.below hb2
  have c0 := hS.c0
  have HS2 := Lib.hid hS
  have HW2 := Lib.hid hw2
  have HB2 := Lib.hid hb2
  have HNB := Lib.hid (number_any hS nm HS.out)
  clear hb1 hw2 hb2 hS HMN hs
  go_upto_region 4 with fail
  rw [← HW2.out]
  cases hno : numOf bs nm with
  | some k =>
    rw [hno] at HNB
    unfold numI at HNB
    clear hno
    go_wp2_with fail
    refine HNB.out.mono ?_
    rintro e w3 ⟨rfl, rfl⟩
    go_wp2_with fail
    go_ret
    exact ⟨⟨8, rfl⟩, DidS.of_below H.out HB2.out⟩
  | none =>
    have hnew := numOf_none hno
    rw [hno] at HNB
    unfold numI at HNB
    have HNEW := Lib.hid hnew
    clear hno hnew
    have HLO := Lib.hid (lost_no HS2.out.disk)
    go_wp2_with fail
    refine HNB.out.mono ?_
    rintro e w3 ⟨rfl, rfl⟩
    go_wp2_with fail
    refine HLO.out.mono ?_
    rintro e w3' ⟨rfl, rfl⟩
    cases hnm : named nm with
    | false =>
      have hz1 : zq = 1 := by rw [← HZQ.out, hnm]; rfl
      clear hnm
      subst hz1
      go_wp2_with fail
      go_ret
      exact ⟨⟨1, rfl⟩, DidS.of_below H.out HB2.out⟩
    | true =>
      have HNM := Lib.hid hnm
      have hz0 : zq = 0 := by rw [← HZQ.out, hnm]; rfl
      subst hz0
      have HLG := Lib.hid (Good.logs_any HS2.out.disk HS2.out.rest.good (HE.out.below HB2.out))
      clear hnm
      go_wp2_with fail
      refine HLG.out.mono ?_
      rintro e w4 ⟨A, n, c, rfl, hr, hb4⟩
      have hnl : bs.length = n := by have := hr.len; rw [List.length_map] at this; unfold Boxes.nums at this; rw [List.length_map] at this; exact this
      have h16 : n ≤ 16 := by rw [← hnl]; exact HS2.out.rest.good.len
      have hbw4 := HB2.out.trans (hb4.mono HB2.out.size)
      have hr' : RowR w4 A n 1 ((List.range n).map iV) := by
        have := hr.read
        rw [HS2.out.rest.near, hnl] at this
        exact this
      have HR := Lib.hid hr'
      have HNL : Hid (bs.length = n) := hnl
      have HB4 := Lib.hid hbw4
      have c0 := cell_later hb4 c0
      clear hr hb4 hnl hbw4 hr' HLG
      go_wp2_with fail
      go_loopw [8] (fun v8 wr => ∃ i : Nat, i ≤ n ∧ v8 = .int .i64 (i : Int) ∧ wr = w4) (fun v8 _ => n - (intOf v8).toNat)
      case atStart => exact ⟨0, Nat.zero_le _, rfl, rfl⟩
      case round =>
        obtain ⟨i, hi, rfl, rfl⟩ := hrel
        have hIC := icontains_any A n c i (List.range n) wr HR.out (by omega)
        by_cases hlt : i < n
        · rw [decide_eq_true (List.mem_range.2 hlt)] at hIC
          have HIC := Lib.hid hIC
          clear hIC
          go_wp2_with fail
          refine HIC.out.mono ?_
          rintro e w5 ⟨rfl, rfl⟩
          go_wp2_with fail
          exact ⟨⟨i + 1, hlt, by first | rfl | (congr 1), by trivial⟩, by simp [intOf]; omega⟩
        · obtain rfl : i = n := by omega
          rw [decide_eq_false (fun h => by have := List.mem_range.1 h; omega)] at hIC
          have HIC := Lib.hid hIC
          clear hIC hlt
          go_wp2_with fail
          refine HIC.out.mono ?_
          rintro e w5 ⟨rfl, rfl⟩
          by_cases hf : i = 16
          · have hge : (16 : Int) ≤ (i : Int) := by omega
            go_wp2_with fail
            go_ret
            exact ⟨⟨5, rfl⟩, DidS.of_below H.out HB4.out⟩
          · have hge : ¬ ((16 : Int) ≤ (i : Int)) := by omega
            have hlt : i < 16 := by omega
            have hRY := roomy_any (H.out.below HB4.out) (HE.out.below HB4.out) nm HNM.out HNEW.out (by rw [HNL.out]; exact hlt)
            rw [HNL.out] at hRY
            have HRY := Lib.hid hRY
            clear hRY hf
            go_wp2_with fail
            refine HRY.out.mono ?_
            rintro e w6 ⟨⟨b, rfl, hfit⟩, hb6⟩
            have HB6 := Lib.hid (HB4.out.trans (hb6.mono HB4.out.size))
            have c0 := cell_later hb6 c0
            clear hb6
            cases b
            · clear hfit
              go_wp2_with fail
              go_ret
              exact ⟨⟨4, rfl⟩, DidS.of_below H.out HB6.out⟩
            · have hft := hfit rfl
              have hS6 := H.out.below HB6.out
              have hG := hS6.rest.good
              have hni : i ∉ bs.nums := by rw [hS6.rest.near, HNL.out]; simp
              have hBG := begin_any hS6.disk i hlt nm HNM.out (hG.logs i hlt hni) hG.new (HE.out.below HB6.out) ⟨hS6.old.1, hS6.old.2.1⟩ (by omega)
              have HBG := Lib.hid hBG
              have HFIT := Lib.hid hft
              have HS6 := Lib.hid hS6
              have HNI := Lib.hid hni
              clear hft hfit hS6 hG hni hBG hge
              go_wp2_with fail
              refine HBG.out.mono ?_
              rintro e w7 ⟨rfl, F7, hd7, hl7, ho7⟩
              obtain ⟨L, hL, hNM⟩ := HS6.out.names
              obtain ⟨a1, a2, a3, a4, a5⟩ := HS6.out.apart
              have hndb : ∀ q, q = gs ∨ q = mm → ¬ DB g m q := fun q hq e => by rcases e with e | e <;> rcases hq with h | h <;> omega
              have hL7 := hL.only ho7 (hndb mm (.inr rfl))
              have c0 := ho7.cell c0 (hndb gs (.inl rfl))
              have c1 := ho7.cell HS6.out.c1 (hndb gs (.inl rfl))
              have hsz : nm.size ≤ maxLen := by have := HS.out; unfold maxLen; omega
              have HD7 := Lib.hid hd7
              have HL7 := Lib.hid hl7
              have HO7 := Lib.hid ho7
              have HLM := Lib.hid hL7
              have HNMM := Lib.hid hNM
              have HSZ : Hid (nm.size ≤ maxLen) := hsz
              clear hd7 hl7 ho7 hL hNM a1 a2 a3 a4 a5 hndb hL7 hsz
              go_wp2_with (at_mapUpdate; refine wpList_mstore _ rfl (.tmp 62) (.tmp 63) (.tmp 64) 115 rfl 9 3 Tryz.underlying115 Tryz.underlying9 mm L rfl HLM.out nm rfl HSZ.out _ rfl ?_; intro w8 hm8 ho8; have c0 := ho8.cell c0 (by have := HS6.out.apart.2.2.2.2; exact this); have HM8 := Lib.hid hm8; have HO8 := Lib.hid ho8; clear hm8 ho8 c1)
              have hold := HS6.out.old
              obtain ⟨a1, a2, a3, a4, a5⟩ := HS6.out.apart
              have hnb : ∀ b, b = mm → NoB w7 b := fun b e => by
                obtain ⟨es, cl, hm, -⟩ := HLM.out
                rw [e]
                exact NoB.map hm
              have hd8 := HD7.out.only HO8.out hnb (fun e => a3 e.symm) (fun e => a4 e.symm)
              have hwh := first_whole HNM.out
              have hnw : (BoxSt.first nm).l.name ∉ bs.map fun p => p.2.l.name := by rw [first_name]; exact HNEW.out
              have hl7 : Laid F F7 bs.length (BoxSt.first nm) := by rw [HNL.out]; exact HL7.out
              have hR2 : ∀ F2, Upd F7 F2 treeN (some (safeF (treeB (Boxes.places (bs ++ [(bs.length, BoxSt.first nm)]))))) → Rest F2 (bs ++ [(bs.length, BoxSt.first nm)]) := fun F2 hu => HS6.out.rest.more (by rw [HNL.out]; exact hlt) hl7 hwh hnw hu
              have hgood := (hR2 _ (Upd.put F7 treeN _)).untree (Upd.put F7 treeN _) (HL7.out.names (names_in i hlt) HS6.out.rest.plain).mono
              have htot := HL7.out.total HS6.out.disk.nodup HD7.out.nodup hlt (HS6.out.rest.good.logs i hlt HNI.out) (HS6.out.rest.bare i hlt HNI.out).2 (HS6.out.rest.bare i hlt HNI.out).1
              have hfit : F7.total + (treeB (Boxes.places (bs ++ [(bs.length, BoxSt.first nm)]))).length ≤ cap := by
                have h1 := HFIT.out
                have e0 : firstLen nm = (logB (BoxSt.first nm).ns).length + (flgB (BoxSt.first nm).f).length + (idxB (BoxSt.first nm).idx).length := rfl
                rw [places_snoc, HNL.out, htot]
                omega
              have ho68 : Only (SB g m mm) w6 w8 := (HO7.out.mono (fun q e => by rcases e with e | e; exact .inl e; exact .inr (.inl e))).trans HO8.out (fun q _ e => .inr (.inr e))
              have HPL := Lib.hid (plant_any hd8 hgood ((HE.out.below HB6.out).only ho68 (fun q e => by rcases e with e | e | e <;> omega)) hfit)
              have HR2 := Lib.hid hR2
              have htl : (treeB (Boxes.places (bs ++ [(bs.length, BoxSt.first nm)]))).length ≤ 1200 := by
                have h1 := treeP_len (HS6.out.rest.moreTree (by rw [HNL.out]; exact hlt) hwh hnw)
                unfold treeB
                rw [page_length]
                omega
              have HTL := Lib.hid htl
              have HTOT := Lib.hid htot
              clear htl
              have HO68 := Lib.hid ho68
              clear hold hnb hd8 hwh hnw hl7 hR2 hgood htot hfit ho68 c0
              refine HPL.out.mono ?_
              rintro e w9 ⟨rfl, F9, hd9, hu9, ho9⟩
              have htt := hu9.total HD7.out.nodup hd9.nodup
              have hT9 : F9.total ≤ F.total + 1300000 := by
                have h1 := first_small HNM.out
                have h2 := HTOT.out
                have h3 := HTL.out
                have e0 : firstLen nm = (logB (BoxSt.first nm).ns).length + (flgB (BoxSt.first nm).f).length + (idxB (BoxSt.first nm).idx).length := rfl
                have e1 : lenF (some (safeF (treeB (Boxes.places (bs ++ [(bs.length, BoxSt.first nm)]))))) = (treeB (Boxes.places (bs ++ [(bs.length, BoxSt.first nm)]))).length := rfl
                rw [e1] at htt
                omega
              have HT9 := Lib.hid hT9
              have HD9 := Lib.hid hd9
              have HU9 := Lib.hid hu9
              have HO9 := Lib.hid ho9
              clear hd9 hu9 ho9 htt hT9
              go_wp2_with fail
              go_ret
              have ho69 : Only (SB g m mm) w6 w9 := HO68.out.trans HO9.out (fun q _ e => by rcases e with e | e; exact .inl e; exact .inr (.inl e))
              refine ⟨⟨0, rfl⟩, F9, bs ++ [(bs.length, BoxSt.first nm)], ⟨ho69.heap HS6.out.cells (fun e => by rcases e with e | e | e <;> omega), ⟨_, HM8.out.only HO9.out (fun e => by rcases e with e | e <;> omega), ?_⟩, HD9.out, HR2.out F9 HU9.out, HS6.out.old, ⟨a1, a2, a3, a4, a5⟩⟩, HT9.out, (Only.of_below HB6.out (SB g m mm)).trans ho69 (fun _ _ h => h)⟩
              have hsn := HNMM.out.snoc (n := bs.length) (b := BoxSt.first nm) (by rw [first_name]; exact HNEW.out)
              rw [first_name] at hsn
              rw [HNL.out] at hsn ⊢
              exact hsn
end Go.Proofs.YtlhaempecidohaaGreatDoor
namespace Go.Proofs.YtlhaempecidohaaGreatDoor
open Go.RowKit
theorem encode_bound (x : Note) : (encode x).length ≤ x.name.size + x.msg.oct.length + 17 := by
  unfold encode
  simp only [List.length_append, beb_length]
  have := textB_length x.name
  split <;> split <;> split <;> simp [beb_length, textB_length] <;> omega
theorem logB_bound : ∀ ns : List Note, (∀ x ∈ ns, x.name.size ≤ 60) → (logB ns).length ≤ 121 * ns.length + octS (ns.map (·.msg))
  | [], _ => Nat.zero_le _
  | n :: ns, h => by
    have h1 := logB_bound ns (fun x hx => h x (by simp [hx]))
    have h2 := encode_bound n
    have h3 := h n (by simp)
    have e : ([n].flatMap frB).length = (encode n).length + 44 := by
      rw [List.flatMap_cons, List.flatMap_nil, List.append_nil]
      exact frameB_length _ _
    rw [show n :: ns = [n] ++ ns from rfl, logB_append, List.length_append, logB_flat [n], e]
    have e2 : octS (([n] ++ ns).map (·.msg)) = n.msg.oct.length + octS (ns.map (·.msg)) := by simp [octS]
    rw [e2, List.length_append, List.length_singleton]
    omega
theorem withFlags_mem : ∀ {l : List LiveS} {f : List (Nat × Int)} {m : Msg}, m ∈ withFlags l f → ∃ x ∈ l, ∃ g, m = { x.msg with flags := g }
  | [], f, m, h => by simp [withFlags] at h
  | x :: l, [], m, h => by simp [withFlags] at h
  | x :: l, y :: f, m, h => by
    have e : withFlags (x :: l) (y :: f) = { x.msg with flags := y.2 } :: withFlags l f := rfl
    rw [e] at h
    rcases List.mem_cons.1 h with h | h
    · exact ⟨x, by simp, y.2, h⟩
    · obtain ⟨z, hz, g, hg⟩ := withFlags_mem (l := l) (f := f) h
      exact ⟨z, by simp [hz], g, hg⟩
theorem withFlags_oct : ∀ (l : List LiveS) (f : List (Nat × Int)), octS (withFlags l f) ≤ liveB l
  | [], f => by simp [withFlags, octS]
  | x :: l, [] => by simp [withFlags, octS]
  | x :: l, y :: f => by
    have h := withFlags_oct l f
    have e : withFlags (x :: l) (y :: f) = { x.msg with flags := y.2 } :: withFlags l f := rfl
    have e1 : octS (withFlags (x :: l) (y :: f)) = x.msg.oct.length + octS (withFlags l f) := by rw [e]; simp [octS]
    have e2 : liveB (x :: l) = x.msg.oct.length + liveB l := by simp [liveB]
    omega
theorem Whole.boxwf {ns : List Note} {f : FlgS} (h : Whole ns f) : (boxOf (readS ns) f).wf := by
  have hok := readS_ok h.formed
  refine ⟨hok.epoch, hok.next, fun m hm => ?_⟩
  obtain ⟨x, hx, g, rfl⟩ := withFlags_mem hm
  exact ⟨(hok.live x hx).2.uid, (hok.live x hx).2.oct⟩
theorem boxst_oct (b : BoxSt) : octS b.box.msgs ≤ (logB b.ns).length := Nat.le_trans (withFlags_oct _ _) (liveB_read b.ns)
theorem came_fits {b : BoxS} (hr : rightBox b = true) (hn : b.next ≤ 4294967296) (he : b.epoch < 4294967296) {x : Msg} (hx : x ∈ b.msgs) (ho : ∀ y ∈ x.oct, y < 256) : (cameN b.name b.epoch x).fits := by
  obtain ⟨p1, p2, p3, p4, p5⟩ := rightBox_parts hr
  obtain ⟨q1, q2, q3, q4⟩ := boxFrom_lt p5 x hx
  unfold fitsMsg dated at q3
  simp only [Bool.and_eq_true, decide_eq_true_eq] at q3
  have h60 := named_size p1
  refine ⟨⟨he, ⟨?_, ho⟩⟩, ?_, ?_, ?_, ?_⟩
  · show x.uid < _; omega
  · show b.name.size ≤ _; omega
  · show _ ≤ x.date; omega
  · show x.date ≤ _; omega
  · show x.oct.length ≤ _; omega
theorem DidS.more {w w1 w2 : World} {gs g m mm cap : Nat} {F : DiskF} (hb : Below w.heap.size w w1) (h : DidS w1 gs g m mm cap F w2) : DidS w gs g m mm cap F w2 := by
  obtain ⟨F', bs', h1, h3, h2⟩ := h
  exact ⟨F', bs', h1, h3, (Only.of_below hb _).trans h2 (fun _ _ h => h)⟩
theorem turn_in {bs : Boxes} {n : Nat} {b : BoxSt} (hb : (n, b) ∈ bs) (b' : BoxSt) : (n, b') ∈ bs.turn n b' := by
  unfold Boxes.turn
  exact List.mem_map.2 ⟨(n, b), hb, if_pos rfl⟩
theorem NotedE.did {w w' : World} {gs g m mm cap n : Nat} {F : DiskF} {bs : Boxes} {B : BoxSt} {ns : List Note} {mk : List (Nat × Int)} {e : Ending} (h : StoreS w gs g m mm cap F bs) (hb : (n, B) ∈ bs) (hN : NotedE w gs g m mm cap F bs n (B.more ns mk) e w') (hl : (logB ns).length ≤ 1210000) :
    ∃ z : Int, e = .returned (.int .i64 z) ∧ DidS w gs g m mm cap F w' := by
  rcases hN with ⟨z, -, rfl, hb⟩ | ⟨rfl, F', hS, hla, ho⟩
  · exact ⟨z, rfl, DidS.of_below h hb⟩
  · refine ⟨0, rfl, F', _, hS, ?_, ho.mono (fun q e => by rcases e with e | e; exact .inl e; exact .inr (.inl e))⟩
    have hw := hS.rest.good.whole _ (turn_in hb (B.more ns mk))
    have h1 := rightFlg_bytes hw.flg
    have h2 := rightIdx_bytes hw.idx
    have h3 := hla.total_ h.disk.nodup hS.disk.nodup (h.rest.good.few _ hb)
    rw [h.rest.good.log _ hb] at h3
    have e1 : lenF (some (safeF (logB B.ns))) = (logB B.ns).length := rfl
    have e2 : (B.more ns mk).ns = B.ns ++ ns := rfl
    have e3 : (B.more ns mk).idx = ofI (readS (B.more ns mk).ns) (logB (B.more ns mk).ns).length := rfl
    rw [e1, e3] at h3
    have h4 : (logB (B.more ns mk).ns).length = (logB B.ns).length + (logB ns).length := by rw [e2, logB_append, List.length_append]
    simp only at h1 h2
    omega
theorem Good.log_le {w : World} {g m cap : Nat} {F : DiskF} {bs : Boxes} {x : Option (List Nat)} (hG : Good F bs x) {n : Nat} {b : BoxSt} (hb : (n, b) ∈ bs) : (logB b.ns).length ≤ F.total := total_get (hG.log _ hb)
end Go.Proofs.YtlhaempecidohaaGreatDoor
namespace Go.Proofs.YtlhaempecidohaaGreatDoor
open Go.RowKit
/-- what Append hands back -/
def AppendE (w : World) (gs g m mm cap : Nat) (F : DiskF) (e : Ending) (w' : World) : Prop := (∃ u z : Int, e = .returned (.tuple #[.int .u32 u, .int .i64 z])) ∧ DidS w gs g m mm cap F w'
theorem SB.no {g m mm b : Nat} (h1 : b ≠ g) (h2 : b ≠ m) (h3 : b ≠ mm) : ¬ SB g m mm b := fun e => by rcases e with e | e | e; exact h1 e; exact h2 e; exact h3 e
theorem StoreS.lts {w : World} {gs g m mm cap : Nat} {F : DiskF} {bs : Boxes} (h : StoreS w gs g m mm cap F bs) : gs < w.heap.size ∧ g < w.heap.size ∧ m < w.heap.size ∧ mm < w.heap.size := by
  obtain ⟨L, hL, -⟩ := h.names
  exact ⟨(Array.getElem?_eq_some_iff.1 h.cells).1, h.disk.lt.1, h.disk.lt.2, hL.lt⟩
set_option maxRecDepth 10000 in
set_option maxHeartbeats 8000000 in
theorem sappend_any {w : World} {gs g m mm cap : Nat} {F : DiskF} {bs : Boxes} (h : StoreS w gs g m mm cap F bs) (hE : Env w) (hroom : F.total ≤ 1048576) (nm : ByteArray) (hs : nm.size ≤ 1000000) (x : Msg) (B : Option Addr) (k d : Nat)
    (hB : RB w B k x.oct) (hkd : k ≤ d) (hk : k ≤ 1000000) (hd0 : -9223372036854775808 ≤ x.date) (hd1 : x.date ≤ 9223372036854775807) :
    Calls Tryz.prog 21 #[.pointer (some ⟨gs, 0, none⟩), .string nm, .agg (msgCells x (.slice B k d)).toArray] w (AppendE w gs g m mm cap F) := by
  obtain ⟨ws, hws⟩ : ∃ ws, ws = w.alloc (.cells (msgCells x (.slice B k d)).toArray 37) := ⟨_, rfl⟩
  have hbs : Below w.heap.size w ws := by rw [hws]; exact (Below.refl _ _).alloc (Nat.le_refl _) _
  have hg5 : ws.heap[w.heap.size]? = some (.cells (msgCells x (.slice B k d)).toArray 37 (0, 0)) := by rw [hws]; exact heap_alloc_new w _
  unfold msgCells at hws hg5 ⊢
  have HS := Lib.hid (h.below hbs)
  have HE := Lib.hid (hE.below hbs)
  have HRB := Lib.hid (hB.below hbs)
  have H := Lib.hid h
  have HG5 := Lib.hid hg5
  have HWS := Lib.hid hws
  have HBS := Lib.hid hbs
  have HRO := Lib.hid hroom
  have hlt := h.lts
  clear h hE hB hws hbs hg5 hroom
  cases hn : numOf bs nm with
  | none =>
    have HLD := Lib.hid (load_any HS.out nm hs HE.out none (fun n h' => by rw [hn] at h'; cases h') (fun _ => rfl))
    clear hn
    go_enter Tryz.func21, Tryz.ntmps21
    go_upto_region 1 with fail
    rw [← HWS.out]
    go_wp2_with fail
    refine HLD.out.mono ?_
    rintro e w1 hE1
    unfold LoadE at hE1
    obtain ⟨rfl, hb1⟩ := hE1
    have HB1 := Lib.hid (HBS.out.trans (hb1.mono HBS.out.size))
    clear hb1
    go_wp2_with fail
    go_ret2
    exact ⟨⟨0, 7, rfl⟩, DidS.of_below H.out (HB1.out.alloc HB1.out.size _)⟩
  | some n =>
    obtain ⟨b, hb, hname⟩ := numOf_some hn
    have hG := HS.out.rest.good
    have hwh := hG.whole _ hb
    have hright : rightBox b.box = true := hwh.right
    have hbwf : b.box.wf := hwh.boxwf
    have hlog := Nat.le_trans (Good.log_le (w := w) (g := g) (m := m) (cap := cap) hG hb) HRO.out
    have hbn : b.box.name = nm := hname
    have HLD := Lib.hid (load_any HS.out nm hs HE.out (some b.box) (fun n' h' => by rw [hn] at h'; injection h' with h'; subst h'; exact ⟨b, hb, rfl⟩) (fun h' => by rw [hn] at h'; cases h'))
    have HMEM := Lib.hid hb
    have HNM := Lib.hid hname
    have HLOG := Lib.hid hlog
    obtain ⟨bx, hbx⟩ : ∃ bx, bx = b.box := ⟨_, rfl⟩
    rw [← hbx] at HLD hright hbwf hbn
    have HRT := Lib.hid hright
    have HWF := Lib.hid hbwf
    have HBN := Lib.hid hbn
    have hnx := hbwf.next
    clear hn hb hname hG hwh hright hbwf hbn hbx hlog
    go_enter Tryz.func21, Tryz.ntmps21
    go_upto_region 1 with fail
    rw [← HWS.out]
    go_wp2_with fail
    refine HLD.out.mono ?_
    rintro e w1 hE1
    unfold LoadE at hE1
    obtain ⟨A, n1, c1, vs, rfl, hro, hal, hb1⟩ := hE1
    obtain ⟨w2, hw2⟩ : ∃ w2, w2 = w1.alloc (.cells (boxCells bx.name bx.epoch bx.next (.slice A n1 c1)).toArray 49) := ⟨_, rfl⟩
    have hb12 : Below w1.heap.size w1 w2 := by rw [hw2]; exact (Below.refl _ _).alloc (Nat.le_refl _) _
    have hg8 : w2.heap[w1.heap.size]? = some (.cells (boxCells bx.name bx.epoch bx.next (.slice A n1 c1)).toArray 49 (0, 0)) := by rw [hw2]; exact heap_alloc_new w1 _
    have hbs2 := hb1.trans (hb12.mono hb1.size)
    have hg5' := (hbs2.block _ (Array.getElem?_eq_some_iff.1 HG5.out).1).trans HG5.out
    have hAP := mappend_any bx.name bx.epoch bx.next A B n1 c1 k d vs bx.msgs x w2 HRT.out hnx (hro.below hb12).read ((hal.mono MsgA.r).mono (MsgR.below hb12)) (HRB.out.below hbs2) hkd (by omega) hd0 hd1 (HE.out.below hbs2)
    unfold boxCells at hw2 hg8 hAP
    unfold msgCells at hAP
    have HAP := Lib.hid hAP
    have HW2 := Lib.hid hw2
    have HB2 := Lib.hid hbs2
    have k0 : w2.cell? ⟨w1.heap.size, 0, none⟩ = some (.string bx.name) := cell_of_row w2 _ 0 _ _ _ hg8
    have k1 : w2.cell? ⟨w1.heap.size, 1, none⟩ = some (.int .u32 (bx.epoch : Int)) := cell_of_row w2 _ 1 _ _ _ hg8
    have k2 : w2.cell? ⟨w1.heap.size, 2, none⟩ = some (.int .u32 (bx.next : Int)) := cell_of_row w2 _ 2 _ _ _ hg8
    have k3 : w2.cell? ⟨w1.heap.size, 3, none⟩ = some (.slice A n1 c1) := cell_of_row w2 _ 3 _ _ _ hg8
    have m0 := cell_of_row w2 _ 0 _ _ _ hg5'
    have m1 := cell_of_row w2 _ 1 _ _ _ hg5'
    have m2 := cell_of_row w2 _ 2 _ _ _ hg5'
    have m3 := cell_of_row w2 _ 3 _ _ _ hg5'
    clear hro hal hb1 hw2 hb12 hg8 hbs2 hg5' hAP HLD
    unfold boxCells
    go_upto_region 2 with fail
    rw [← HW2.out]
    go_wp2_with fail
    refine HAP.out.mono ?_
    rintro e w3 hE3
    unfold AppE at hE3
    by_cases hz : addE bx x = 0
    · have hz' : addE (⟨bx.name, bx.epoch, bx.next, bx.msgs⟩ : BoxS) x = 0 := hz
      rw [if_pos hz'] at hE3
      obtain ⟨A7, n7, c7, vs7, rfl, hro7, hal7, hb3, -⟩ := hE3
      dsimp only
      obtain ⟨NX, hNX⟩ : ∃ NX, bx.next + 1 = NX := ⟨_, rfl⟩
      rw [hNX]
      obtain ⟨w4, hw4⟩ : ∃ w4, w4 = w3.alloc (.cells (boxCells bx.name bx.epoch NX (.slice A7 n7 c7)).toArray 49) := ⟨_, rfl⟩
      have hb34 : Below w3.heap.size w3 w4 := by rw [hw4]; exact (Below.refl _ _).alloc (Nat.le_refl _) _
      have hg10 : w4.heap[w3.heap.size]? = some (.cells (boxCells bx.name bx.epoch NX (.slice A7 n7 c7)).toArray 49 (0, 0)) := by rw [hw4]; exact heap_alloc_new w3 _
      have hb24 := hb3.trans (hb34.mono hb3.size)
      have hbs4 := HB2.out.trans (hb24.mono HB2.out.size)
      have hright := addS_right (b := bx) (m := x) hz
      have hnx' : bx.next ≠ 4294967295 := addE_next hz
      have hmx : ({ x with uid := bx.next } : Msg) ∈ (addS bx x).msgs := List.mem_append_right _ (by simp)
      have hbyt : ∀ y ∈ x.oct, y < 256 := HRB.out.2.1
      have hfit : (cameN bx.name bx.epoch { x with uid := bx.next }).fits := came_fits (b := addS bx x) hright (by show bx.next + 1 ≤ _; omega) HWF.out.epoch hmx hbyt
      have h500 : n7 ≤ 500 := by
        have h1 := (rightBox_parts hright).2.2.2.1
        have h2 : vs7.length = (addS bx x).msgs.length := hal7.length
        rw [hro7.len] at h2
        omega
      have h20 : x.oct.length ≤ 20000 := (boxFrom_lt (rightBox_parts hright).2.2.2.2 _ hmx).2.2.2
      have hn60 := named_size (rightBox_parts hright).1
      have hn60' : bx.name.size ≤ 60 := hn60
      have hal4 : All2 (MsgA w4 A7) vs7 (addS bx x).msgs := hal7.mono (MsgA.below hb34)
      have huid : ∀ y ∈ (addS bx x).msgs, y.uid < 4294967296 := fun y hy => by
        have := (boxFrom_lt (rightBox_parts hright).2.2.2.2 _ hy).2.1
        have e : (addS bx x).next = bx.next + 1 := rfl
        omega
      have hCM : ∀ wx, Below w4.heap.size w4 wx → wx.heap = (w4.alloc (.cells #[.int .u32 (bx.next : Int)] 35)).heap →
          Calls Tryz.prog 70 #[.agg #[.string bx.name, .int .u32 (bx.epoch : Int), .int .u32 (NX : Int), .slice A7 n7 c7], .slice (some ⟨w4.heap.size, 0, none⟩) 1 1] wx (CameE wx bx.name bx.epoch [{ x with uid := bx.next }]) := fun wx hbx hh => by
        have hu : RowR wx (some ⟨w4.heap.size, 0, none⟩) 1 1 ([bx.next].map uV) := (RowR.lit w4 #[.int .u32 (bx.next : Int)] 35 [uV bx.next] 1 rfl (by simp [uV]) 1 rfl).heap hh
        exact came_any bx.name bx.epoch NX A7 _ n7 c7 1 1 vs7 (addS bx x).msgs [{ x with uid := bx.next }] [bx.next] wx ((hro7.below hb34).read.below hbx) (hal4.mono (MsgA.below hbx)) (by omega) hu (by omega) (by
          show [(addS bx x).find bx.next] = _
          rw [find_append HRT.out]
          rfl)
      have hNT : ∀ wx wy A' c' vs', Below w4.heap.size w4 wx → Below wx.heap.size wx wy → RowR wy A' 1 7 vs' → All2 (NoteR wy) vs' [cameN bx.name bx.epoch { x with uid := bx.next }] →
          Calls Tryz.prog 69 #[.pointer (some ⟨gs, 0, none⟩), .agg #[.string bx.name, .int .u32 (bx.epoch : Int), .int .u32 (NX : Int), .slice A7 n7 c7], .slice A' 1 c'] wy fun e w' => ∃ z : Int, e = .returned (.int .i64 z) ∧ DidS wy gs g m mm cap F w' := fun wx wy A' c' vs' hbx hby hr ha => by
        have hby4 : Below w4.heap.size w4 wy := hbx.trans (hby.mono hbx.size)
        have hbsy := hbs4.trans (hby4.mono hbs4.size)
        have hSy := HS.out.below hbsy
        have hl1 : (logB [cameN bx.name bx.epoch { x with uid := bx.next }]).length ≤ 30000 := by
          have h1 := logB_bound [cameN bx.name bx.epoch { x with uid := bx.next }] (fun y hy => by rw [List.mem_singleton.1 hy]; exact hn60')
          have e1 : octS ([cameN bx.name bx.epoch { x with uid := bx.next }].map (·.msg)) = x.oct.length := by simp [octS, cameN]
          rw [e1, List.length_singleton] at h1
          omega
        have hnt := note_any hSy (HE.out.below hbsy) HMEM.out bx.name (HNM.out.trans HBN.out.symm) bx.epoch NX A7 n7 c7 vs7 (addS bx x).msgs ((hro7.below hb34).read.below hby4) (MsgA.v (hal4.mono (MsgA.below hby4)) huid) (by omega) A' 1 c' vs' [cameN bx.name bx.epoch { x with uid := bx.next }] hr ha (by omega)
          (fun y hy => by rw [List.mem_singleton.1 hy]; exact hfit) (fun y hy => by rw [List.mem_singleton.1 hy]; exact .inr rfl) (by have := HLOG.out; omega)
        exact hnt.mono (fun e w' hN => NotedE.did hSy HMEM.out hN (by omega))
      have HCM := Lib.hid hCM
      have HNT := Lib.hid hNT
      have HB4 := Lib.hid (HBS.out.trans (hbs4.mono HBS.out.size))
      unfold boxCells at hw4 hg10
      have HW4 := Lib.hid hw4
      have b0 : w4.cell? ⟨w3.heap.size, 0, none⟩ = some (.string bx.name) := cell_of_row w4 _ 0 _ _ _ hg10
      have b1 : w4.cell? ⟨w3.heap.size, 1, none⟩ = some (.int .u32 (bx.epoch : Int)) := cell_of_row w4 _ 1 _ _ _ hg10
      have b2 : w4.cell? ⟨w3.heap.size, 2, none⟩ = some (.int .u32 (NX : Int)) := cell_of_row w4 _ 2 _ _ _ hg10
      have b3 : w4.cell? ⟨w3.heap.size, 3, none⟩ = some (.slice A7 n7 c7) := cell_of_row w4 _ 3 _ _ _ hg10
      have hw3 : w.heap.size ≤ w3.heap.size := Nat.le_trans HBS.out.size (Nat.le_trans HB2.out.size hb3.size)
      have hNSB : ¬ SB g m mm w3.heap.size := SB.no (by omega) (by omega) (by omega)
      have HNSB := Lib.hid hNSB
      clear hro7 hal7 hb3 hw4 hb34 hg10 hb24 hbs4 hright hnx' hmx hbyt hfit h20 hn60 hn60' hal4 huid hCM hNT hz hz' k0 k1 k2 k3 m0 m1 m2 m3 hNSB HAP hNX
      unfold boxCells
      go_upto_region 7 with fail
      rw [← HW4.out]
      have HDR : Hid (∀ o, Below w4.heap.size w4 (w4.drew.alloc o)) := fun o => (Below.refl w4.heap.size w4).drew.alloc (Nat.le_refl _) o
      go_region_held (fun w' => w'.cell? ⟨w3.heap.size, 0, none⟩ = some (.string bx.name) ∧ w'.cell? ⟨w3.heap.size, 1, none⟩ = some (.int .u32 (bx.epoch : Int)) ∧ w'.cell? ⟨w3.heap.size, 2, none⟩ = some (.int .u32 (NX : Int)) ∧ w'.cell? ⟨w3.heap.size, 3, none⟩ = some (.slice A7 n7 c7))
        (first | exact ⟨b0, b1, b2, b3⟩ | exact ⟨cell_later (HDR.out _) b0, cell_later (HDR.out _) b1, cell_later (HDR.out _) b2, cell_later (HDR.out _) b3⟩)
        (first
          | (go_at_call 70; refine (HCM.out _ (HDR.out _) rfl).mono ?_; rintro e wc ⟨A8, c8, vs8, rfl, hr8, ha8, hb8⟩; have hb48 := (HDR.out (.cells #[.int .u32 (bx.next : Int)] 35)).trans (hb8.mono (HDR.out (.cells #[.int .u32 (bx.next : Int)] 35)).size); have HR8 := Lib.hid hr8.read; have HA8 := Lib.hid ha8; have HB8 := Lib.hid hb8; have HB48 := Lib.hid hb48; have b0 := cell_later hb48 b0; have b1 := cell_later hb48 b1; have b2 := cell_later hb48 b2; have b3 := cell_later hb48 b3; clear hr8 ha8 hb8 hb48)
          | (go_at_call 69; refine (HNT.out _ _ A8 c8 vs8 (HDR.out _) HB8.out HR8.out HA8.out).mono ?_; rintro e wd ⟨z, rfl, hdid⟩; have b0 := hdid.choose_spec.choose_spec.2.2.cell b0 HNSB.out; have b1 := hdid.choose_spec.choose_spec.2.2.cell b1 HNSB.out; have b2 := hdid.choose_spec.choose_spec.2.2.cell b2 HNSB.out; have b3 := hdid.choose_spec.choose_spec.2.2.cell b3 HNSB.out; have HDID := Lib.hid (hdid.more (HB4.out.trans (HB48.out.mono HB4.out.size))); clear hdid))
      all_goals
        by_cases hzz : z = 0
        · subst hzz
          go_wp2_with fail
          go_ret2
          exact ⟨⟨_, 0, rfl⟩, HDID.out⟩
        · have hzz' : (z != 0) = true := by simpa using hzz
          go_wp2_with fail
          go_ret2
          exact ⟨⟨0, z, rfl⟩, HDID.out⟩
    · have hz' : ¬ addE (⟨bx.name, bx.epoch, bx.next, bx.msgs⟩ : BoxS) x = 0 := hz
      rw [if_neg hz'] at hE3
      obtain ⟨rfl, hb3⟩ := hE3
      have hzn : (addE bx x != 0) = true := by simpa using hz
      have hzn' : (addE (⟨bx.name, bx.epoch, bx.next, bx.msgs⟩ : BoxS) x != 0) = true := hzn
      have HB3 := Lib.hid (HBS.out.trans ((HB2.out.trans (hb3.mono HB2.out.size)).mono HBS.out.size))
      clear hb3 hz hz' k0 k1 k2 k3 m0 m1 m2 m3
      go_wp2_with fail
      go_ret2
      exact ⟨⟨0, _, rfl⟩, DidS.of_below H.out (HB3.out.alloc HB3.out.size _)⟩
end Go.Proofs.YtlhaempecidohaaGreatDoor
namespace Go.Proofs.YtlhaempecidohaaGreatDoor
open Go.RowKit
/-- what Store hands back -/
def NumE (w : World) (gs g m mm cap : Nat) (F : DiskF) (e : Ending) (w' : World) : Prop := (∃ z : Int, e = .returned (.int .i64 z)) ∧ DidS w gs g m mm cap F w'
theorem UR.below0 {w w' : World} {A : Option Addr} {n : Nat} {l : List Nat} (h : UR w A n l) (hb : Below w.heap.size w w') : UR w' A n l := h.only0 (Only.of_below hb (fun _ => False)) (fun _ _ _ e => e)
set_option maxRecDepth 10000 in
set_option maxHeartbeats 8000000 in
theorem sstore_any {w : World} {gs g m mm cap : Nat} {F : DiskF} {bs : Boxes} (h : StoreS w gs g m mm cap F bs) (hE : Env w) (hroom : F.total ≤ 1048576) (nm : ByteArray) (hs : nm.size ≤ 1000000) (U : Option Addr) (un uc : Nat) (us : List Nat) (fl how : Int)
    (hu : UR w U un us) (hun : un ≤ 1000000000) :
    Calls Tryz.prog 22 #[.pointer (some ⟨gs, 0, none⟩), .string nm, .slice U un uc, .int .i64 fl, .int .i64 how] w (NumE w gs g m mm cap F) := by
  have H := Lib.hid h
  have HE := Lib.hid hE
  have HU := Lib.hid hu
  have HRO := Lib.hid hroom
  have hlt := h.lts
  clear h hE hu hroom
  cases hn : numOf bs nm with
  | none =>
    have HLD := Lib.hid (load_any H.out nm hs HE.out none (fun n h' => by rw [hn] at h'; cases h') (fun _ => rfl))
    clear hn
    go_enter Tryz.func22, Tryz.ntmps22
    go_wp2_with fail
    refine HLD.out.mono ?_
    rintro e w1 hE1
    unfold LoadE at hE1
    obtain ⟨rfl, hb1⟩ := hE1
    have HB1 := Lib.hid hb1
    clear hb1
    go_wp2_with fail
    go_ret
    exact ⟨⟨7, rfl⟩, DidS.of_below H.out (HB1.out.alloc HB1.out.size _)⟩
  | some n =>
    obtain ⟨b, hb, hname⟩ := numOf_some hn
    have hG := H.out.rest.good
    have hwh := hG.whole _ hb
    have hright : rightBox b.box = true := hwh.right
    have hbwf : b.box.wf := hwh.boxwf
    have hlog := Nat.le_trans (Good.log_le (w := w) (g := g) (m := m) (cap := cap) hG hb) HRO.out
    have hbn : b.box.name = nm := hname
    have HLD := Lib.hid (load_any H.out nm hs HE.out (some b.box) (fun n' h' => by rw [hn] at h'; injection h' with h'; subst h'; exact ⟨b, hb, rfl⟩) (fun h' => by rw [hn] at h'; cases h'))
    have HMEM := Lib.hid hb
    have HNM := Lib.hid hname
    have HLOG := Lib.hid hlog
    obtain ⟨bx, hbx⟩ : ∃ bx, bx = b.box := ⟨_, rfl⟩
    rw [← hbx] at HLD hright hbwf hbn
    have HRT := Lib.hid hright
    have HBN := Lib.hid hbn
    have hnx := hbwf.next
    clear hn hb hname hG hwh hright hbwf hbn hbx hlog
    go_enter Tryz.func22, Tryz.ntmps22
    go_wp2_with fail
    refine HLD.out.mono ?_
    rintro e w1 hE1
    unfold LoadE at hE1
    obtain ⟨A, n1, c1, vs, rfl, hro, hal, hb1⟩ := hE1
    obtain ⟨w2, hw2⟩ : ∃ w2, w2 = w1.alloc (.cells (boxCells bx.name bx.epoch bx.next (.slice A n1 c1)).toArray 49) := ⟨_, rfl⟩
    have hb12 : Below w1.heap.size w1 w2 := by rw [hw2]; exact (Below.refl _ _).alloc (Nat.le_refl _) _
    have hg8 : w2.heap[w1.heap.size]? = some (.cells (boxCells bx.name bx.epoch bx.next (.slice A n1 c1)).toArray 49 (0, 0)) := by rw [hw2]; exact heap_alloc_new w1 _
    have hb02 := hb1.trans (hb12.mono hb1.size)
    have hMS := mstore_any bx.name bx.epoch bx.next A U n1 c1 un uc vs bx.msgs us fl how w2 HRT.out hnx (hro.below hb12).read ((hal.mono MsgA.r).mono (MsgR.below hb12)) (HU.out.below0 hb02) hun (HE.out.below hb02)
    have h500 : n1 ≤ 500 := by
      have h1 := (rightBox_parts HRT.out).2.2.2.1
      have h2 := hal.length
      rw [hro.len] at h2
      omega
    unfold boxCells at hw2 hg8 hMS
    have HMS := Lib.hid hMS
    have HW2 := Lib.hid hw2
    have HB2 := Lib.hid hb02
    have k0 : w2.cell? ⟨w1.heap.size, 0, none⟩ = some (.string bx.name) := cell_of_row w2 _ 0 _ _ _ hg8
    have k1 : w2.cell? ⟨w1.heap.size, 1, none⟩ = some (.int .u32 (bx.epoch : Int)) := cell_of_row w2 _ 1 _ _ _ hg8
    have k2 : w2.cell? ⟨w1.heap.size, 2, none⟩ = some (.int .u32 (bx.next : Int)) := cell_of_row w2 _ 2 _ _ _ hg8
    have k3 : w2.cell? ⟨w1.heap.size, 3, none⟩ = some (.slice A n1 c1) := cell_of_row w2 _ 3 _ _ _ hg8
    clear hro hal hb1 hw2 hb12 hg8 hb02 hMS HLD
    unfold boxCells
    go_upto_region 2 with fail
    rw [← HW2.out]
    go_wp2_with fail
    refine HMS.out.mono ?_
    rintro e w3 ⟨A7, c7, vs7, ms7, rfl, hro7, hal7, hb3⟩
    obtain ⟨w4, hw4⟩ : ∃ w4, w4 = w3.alloc (.cells (boxCells bx.name bx.epoch bx.next (.slice A7 n1 c7)).toArray 49) := ⟨_, rfl⟩
    have hb34 : Below w3.heap.size w3 w4 := by rw [hw4]; exact (Below.refl _ _).alloc (Nat.le_refl _) _
    have hg13 : w4.heap[w3.heap.size]? = some (.cells (boxCells bx.name bx.epoch bx.next (.slice A7 n1 c7)).toArray 49 (0, 0)) := by rw [hw4]; exact heap_alloc_new w3 _
    have hb04 := HB2.out.trans ((hb3.trans (hb34.mono hb3.size)).mono HB2.out.size)
    have hS4 := H.out.below hb04
    have hnt := note_any hS4 (HE.out.below hb04) HMEM.out bx.name (HNM.out.trans HBN.out.symm) bx.epoch bx.next A7 n1 c7 vs7 ms7 (hro7.below hb34).read hal7 (by omega) none 0 0 [] [] (RowR.nil _ _ _) trivial (by omega) (fun y hy => by cases hy) (fun y hy => by cases hy)
      (by have := HLOG.out; have e : (logB []).length = 0 := rfl; omega)
    have hnt := hnt.mono (fun e w' hN => NotedE.did hS4 HMEM.out hN (by show (0 : Nat) ≤ _; omega))
    unfold boxCells at hw4 hg13 hnt
    have HNT := Lib.hid hnt
    have HW4 := Lib.hid hw4
    have HB4 := Lib.hid hb04
    have b0 : w4.cell? ⟨w3.heap.size, 0, none⟩ = some (.string bx.name) := cell_of_row w4 _ 0 _ _ _ hg13
    have b1 : w4.cell? ⟨w3.heap.size, 1, none⟩ = some (.int .u32 (bx.epoch : Int)) := cell_of_row w4 _ 1 _ _ _ hg13
    have b2 : w4.cell? ⟨w3.heap.size, 2, none⟩ = some (.int .u32 (bx.next : Int)) := cell_of_row w4 _ 2 _ _ _ hg13
    have b3 : w4.cell? ⟨w3.heap.size, 3, none⟩ = some (.slice A7 n1 c7) := cell_of_row w4 _ 3 _ _ _ hg13
    clear hro7 hal7 hb3 hw4 hb34 hg13 hb04 hS4 hnt k0 k1 k2 k3 HMS
    unfold boxCells
    go_upto_region 5 with fail
    rw [← HW4.out]
    go_wp2_with fail
    refine HNT.out.mono ?_
    rintro e w5 ⟨z, rfl, hdid⟩
    have HDID := Lib.hid (hdid.more HB4.out)
    clear hdid
    go_wp2_with fail
    go_ret
    exact ⟨⟨z, rfl⟩, HDID.out⟩
/-- what Expunge, Copy hand back -/
def ListE (w : World) (gs g m mm cap : Nat) (F : DiskF) (e : Ending) (w' : World) : Prop := (∃ (G : Option Addr) (k kc : Nat) (z : Int), e = .returned (.tuple #[.slice G k kc, .int .i64 z])) ∧ DidS w gs g m mm cap F w'
/-- the note of a message that is gone -/
def goneN (ep u : Nat) : Note := ⟨3, ep, ⟨#[]⟩, ⟨u, 0, 0, []⟩⟩
theorem gone_fits {ep u : Nat} (he : ep < 4294967296) (hu : u < 4294967296) : (goneN ep u).fits :=
  ⟨⟨he, ⟨hu, fun x hx => by cases hx⟩⟩, by show (0 : Nat) ≤ _; omega, by show (-9223372036854775808 : Int) ≤ 0; omega, by show (0 : Int) ≤ _; omega, by show (0 : Nat) ≤ _; omega⟩
def goneC (ep u : Nat) : List Value := noteCells (goneN ep u) (.slice none 0 0)
theorem gone_all (w : World) (ep : Nat) : ∀ l : List Nat, All2 (NoteR w) (l.map (goneC ep)) (l.map (goneN ep))
  | [] => trivial
  | u :: l => ⟨⟨none, 0, 0, rfl, RB.nil _ _, Nat.le_refl _⟩, gone_all w ep l⟩
set_option maxRecDepth 10000 in
set_option maxHeartbeats 8000000 in
theorem sexpunge_any {w : World} {gs g m mm cap : Nat} {F : DiskF} {bs : Boxes} (h : StoreS w gs g m mm cap F bs) (hE : Env w) (hroom : F.total ≤ 1048576) (nm : ByteArray) (hs : nm.size ≤ 1000000) (U : Option Addr) (un uc : Nat) (us : List Nat) (al : Bool)
    (hu : UR w U un us) (hun : un ≤ 1000000000) :
    Calls Tryz.prog 23 #[.pointer (some ⟨gs, 0, none⟩), .string nm, .slice U un uc, .bool al] w (ListE w gs g m mm cap F) := by
  have H := Lib.hid h
  have HE := Lib.hid hE
  have HU := Lib.hid hu
  have HRO := Lib.hid hroom
  have hlt := h.lts
  clear h hE hu hroom
  cases hn : numOf bs nm with
  | none =>
    have HLD := Lib.hid (load_any H.out nm hs HE.out none (fun n h' => by rw [hn] at h'; cases h') (fun _ => rfl))
    clear hn
    go_enter Tryz.func23, Tryz.ntmps23
    go_wp2_with fail
    refine HLD.out.mono ?_
    rintro e w1 hE1
    unfold LoadE at hE1
    obtain ⟨rfl, hb1⟩ := hE1
    have HB1 := Lib.hid hb1
    clear hb1
    go_wp2_with fail
    go_ret2
    exact ⟨⟨none, 0, 0, 7, rfl⟩, DidS.of_below H.out (HB1.out.alloc HB1.out.size _)⟩
  | some n =>
    obtain ⟨b, hb, hname⟩ := numOf_some hn
    have hG := H.out.rest.good
    have hwh := hG.whole _ hb
    have hright : rightBox b.box = true := hwh.right
    have hbwf : b.box.wf := hwh.boxwf
    have hlog := Nat.le_trans (Good.log_le (w := w) (g := g) (m := m) (cap := cap) hG hb) HRO.out
    have hbn : b.box.name = nm := hname
    have HLD := Lib.hid (load_any H.out nm hs HE.out (some b.box) (fun n' h' => by rw [hn] at h'; injection h' with h'; subst h'; exact ⟨b, hb, rfl⟩) (fun h' => by rw [hn] at h'; cases h'))
    have HMEM := Lib.hid hb
    have HNM := Lib.hid hname
    have HLOG := Lib.hid hlog
    obtain ⟨bx, hbx⟩ : ∃ bx, bx = b.box := ⟨_, rfl⟩
    rw [← hbx] at HLD hright hbwf hbn
    have HRT := Lib.hid hright
    have HBN := Lib.hid hbn
    have hnx := hbwf.next
    have hep := hbwf.epoch
    clear hn hb hname hG hwh hright hbwf hbn hbx hlog
    go_enter Tryz.func23, Tryz.ntmps23
    go_wp2_with fail
    refine HLD.out.mono ?_
    rintro e w1 hE1
    unfold LoadE at hE1
    obtain ⟨A, n1, c1, vs, rfl, hro, hal, hb1⟩ := hE1
    obtain ⟨w2, hw2⟩ : ∃ w2, w2 = w1.alloc (.cells (boxCells bx.name bx.epoch bx.next (.slice A n1 c1)).toArray 49) := ⟨_, rfl⟩
    have hb12 : Below w1.heap.size w1 w2 := by rw [hw2]; exact (Below.refl _ _).alloc (Nat.le_refl _) _
    have hg8 : w2.heap[w1.heap.size]? = some (.cells (boxCells bx.name bx.epoch bx.next (.slice A n1 c1)).toArray 49 (0, 0)) := by rw [hw2]; exact heap_alloc_new w1 _
    have hb02 := hb1.trans (hb12.mono hb1.size)
    have hMS := expunge_any bx.name bx.epoch bx.next A U n1 c1 un uc vs bx.msgs us al w2 HRT.out hnx (hro.below hb12).read ((hal.mono MsgA.r).mono (MsgR.below hb12)) (HU.out.below0 hb02) hun (HE.out.below hb02)
    have h500 : n1 ≤ 500 := by
      have h1 := (rightBox_parts HRT.out).2.2.2.1
      have h2 := hal.length
      rw [hro.len] at h2
      omega
    unfold boxCells at hw2 hg8 hMS
    have HMS := Lib.hid hMS
    have HW2 := Lib.hid hw2
    have HB2 := Lib.hid hb02
    have HG10 := Lib.hid hg8
    have k0 : w2.cell? ⟨w1.heap.size, 0, none⟩ = some (.string bx.name) := cell_of_row w2 _ 0 _ _ _ hg8
    have k1 : w2.cell? ⟨w1.heap.size, 1, none⟩ = some (.int .u32 (bx.epoch : Int)) := cell_of_row w2 _ 1 _ _ _ hg8
    have k2 : w2.cell? ⟨w1.heap.size, 2, none⟩ = some (.int .u32 (bx.next : Int)) := cell_of_row w2 _ 2 _ _ _ hg8
    have k3 : w2.cell? ⟨w1.heap.size, 3, none⟩ = some (.slice A n1 c1) := cell_of_row w2 _ 3 _ _ _ hg8
    clear hro hal hb1 hw2 hb12 hg8 hb02 hMS HLD
    unfold boxCells
    go_upto_region 2 with fail
    rw [← HW2.out]
    go_wp2_with fail
    refine HMS.out.mono ?_
    rintro e w3 ⟨A7, m7, c7, vs7, ms7, G, k, kc, gl, rfl, hm7, hro7, hal7, hk7, hgr, hgu, hb3⟩
    obtain ⟨w4, hw4⟩ : ∃ w4, w4 = w3.alloc (.cells (boxCells bx.name bx.epoch bx.next (.slice A7 m7 c7)).toArray 49) := ⟨_, rfl⟩
    have hb34 : Below w3.heap.size w3 w4 := by rw [hw4]; exact (Below.refl _ _).alloc (Nat.le_refl _) _
    have hg13 : w4.heap[w3.heap.size]? = some (.cells (boxCells bx.name bx.epoch bx.next (.slice A7 m7 c7)).toArray 49 (0, 0)) := by rw [hw4]; exact heap_alloc_new w3 _
    have hb24 := hb3.trans (hb34.mono hb3.size)
    have hb04 := HB2.out.trans (hb24.mono HB2.out.size)
    have hgl : gl.length = k := by have := hgr.len; rwa [List.length_map] at this
    have hg10 := (hb24.block _ (Array.getElem?_eq_some_iff.1 HG10.out).1).trans HG10.out
    unfold boxCells at hw4 hg13
    have HW4 := Lib.hid hw4
    have HB4 := Lib.hid hb04
    have HG4 := Lib.hid hg10
    have HG13 := Lib.hid hg13
    have HRO7 := Lib.hid (hro7.below hb34).read
    have HAL7 := Lib.hid hal7
    have HGR := Lib.hid (hgr.below hb34).read
    have HGU := Lib.hid hgu
    have HGL : Hid (gl.length = k) := hgl
    clear hro7 hal7 hb3 hw4 hb34 hg13 hb04 hb24 hg10 hgr hgu hgl k0 k1 k2 k3 HMS
    unfold boxCells
    go_upto_region 5 with fail
    rw [← HW4.out]
    by_cases hk0 : k = 0
    · subst hk0
      go_wp2_with fail
      go_ret2
      exact ⟨⟨none, 0, 0, 0, rfl⟩, DidS.of_below H.out HB4.out⟩
    · have hkz : ((k : Int) == 0) = false := by rw [beq_eq_false_iff_ne]; omega
      go_wp2_with fail
      go_loopw [14, 45] (fun v14 v45 wr => ∃ (i : Nat) (D : Option Addr) (dc : Nat), i ≤ k ∧ v14 = .slice D i dc ∧ v45 = .int .i64 (i : Int) ∧ RowO wr w4.heap.size 134 7 D i dc ((gl.take i).map (goneC bx.epoch)) ∧ Below w4.heap.size w4 wr) (fun _ v45 _ => k - (intOf v45).toNat)
      case atStart => exact ⟨0, none, 0, Nat.zero_le _, rfl, rfl, RowO.nil _ _ _ _, Below.refl _ _⟩
      case round =>
        obtain ⟨i, D, dc, hi, rfl, rfl, hrow, hb⟩ := hrel
        have HROW := Lib.hid hrow
        have HB := Lib.hid hb
        clear hrow hb
        by_cases hlt2 : i < k
        · obtain ⟨gG, u, rfl, hui, hcu⟩ := (HGR.out.below HB.out).map hlt2
          have hcell : wr.cell? ⟨gG, i, none⟩ = some (.int .u32 (u : Int)) := by have := hcu 0 _ rfl; rwa [Nat.mul_one, Nat.add_zero] at this
          have htk : gl.take (i + 1) = gl.take i ++ [u] := by
            obtain ⟨h1, h2⟩ := List.getElem?_eq_some_iff.1 hui
            rw [List.take_succ_eq_append_getElem h1, h2]
          have HTK := Lib.hid htk
          have k1 : wr.cell? ⟨w1.heap.size, 1, none⟩ = some (.int .u32 (bx.epoch : Int)) := cell_of_row wr _ 1 _ _ _ ((HB.out.block _ (Array.getElem?_eq_some_iff.1 HG4.out).1).trans HG4.out)
          clear hui hcu htk
          have hz5 := HB.out.size
          go_wp2_with (at_builtin; refine wp_append_row rfl (.tmp 49) (.tmp 55) 128 134 7 _ 80 und128 inf134 rfl (by decide) (by decide) rfl rfl rfl (HROW.out.below ((Below.refl _ _).alloc (Nat.le_refl _) _)) (range_new wr (goneC bx.epoch u) 134) rfl (by simp [goneC, noteCells, msgCells, Value.oneCell']) (by omega) (by simp; omega) ?_; intro G5 c5 w5 hro5 ho5 hbk5; have HRO5 := Lib.hid hro5; have HO5 := Lib.hid ho5; have hb5 := (Below.refl wr.heap.size wr).alloc (Nat.le_refl _) (.cells (goneC bx.epoch u).toArray 134); have HB5 := Lib.hid hb5; clear hro5 ho5 hbk5 hb5)
          have hrl := HROW.out.lt
          refine ⟨⟨i + 1, G5, c5, hlt2, rfl, by first | rfl | (congr 1), ?_, ?_⟩, by simp [intOf]; omega⟩
          · rw [HTK.out, List.map_append]
            exact HRO5.out
          · exact HB.out.trans ((HB5.out.mono hz5).trans (HO5.out.below (Nat.le_trans hz5 HB5.out.size) (fun b hb e => by have := (hrl b e).1; omega)))
        · obtain rfl : i = k := by omega
          have hrow := HROW.out
          rw [List.take_of_length_le (by rw [HGL.out]; exact Nat.le_refl _)] at hrow
          have hb0r := HB4.out.trans (HB.out.mono HB4.out.size)
          have hSr := H.out.below hb0r
          have hl1 : (logB (gl.map (goneN bx.epoch))).length ≤ 100000 := by
            have h1 := logB_bound (gl.map (goneN bx.epoch)) (fun y hy => by obtain ⟨u, hu, rfl⟩ := List.mem_map.1 hy; show (0 : Nat) ≤ 60; omega)
            have h2 : ∀ l : List Nat, octS ((l.map (goneN bx.epoch)).map (·.msg)) = 0 := fun l => by
              induction l with
              | nil => rfl
              | cons a l ih => simpa [octS, goneN] using ih
            rw [h2, List.length_map, HGL.out] at h1
            omega
          have hnt := note_any hSr (HE.out.below hb0r) HMEM.out bx.name (HNM.out.trans HBN.out.symm) bx.epoch bx.next A7 m7 c7 vs7 ms7 (HRO7.out.below HB.out) HAL7.out (by omega) D i dc _ (gl.map (goneN bx.epoch)) hrow.read (gone_all wr bx.epoch gl) (by omega)
            (fun y hy => by obtain ⟨u, hu, rfl⟩ := List.mem_map.1 hy; exact gone_fits hep (HGU.out u hu)) (fun y hy => by obtain ⟨u, hu, rfl⟩ := List.mem_map.1 hy; exact .inl rfl)
            (by have := HLOG.out; omega)
          have hnt := hnt.mono (fun e w' hN => NotedE.did hSr HMEM.out hN (by omega))
          have hg13 := (HB.out.block _ (Array.getElem?_eq_some_iff.1 HG13.out).1).trans HG13.out
          unfold boxCells at hnt
          have HNT := Lib.hid hnt
          have HBR := Lib.hid hb0r
          have b0 : wr.cell? ⟨w3.heap.size, 0, none⟩ = some (.string bx.name) := cell_of_row wr _ 0 _ _ _ hg13
          have b1 : wr.cell? ⟨w3.heap.size, 1, none⟩ = some (.int .u32 (bx.epoch : Int)) := cell_of_row wr _ 1 _ _ _ hg13
          have b2 : wr.cell? ⟨w3.heap.size, 2, none⟩ = some (.int .u32 (bx.next : Int)) := cell_of_row wr _ 2 _ _ _ hg13
          have b3 : wr.cell? ⟨w3.heap.size, 3, none⟩ = some (.slice A7 m7 c7) := cell_of_row wr _ 3 _ _ _ hg13
          clear hrow hb0r hSr hnt hg13
          go_wp2_with fail
          refine HNT.out.mono ?_
          rintro e w5 ⟨z, rfl, hdid⟩
          have HDID := Lib.hid (hdid.more HBR.out)
          clear hdid
          by_cases hzz : z = 0
          · subst hzz
            go_wp2_with fail
            go_ret2
            exact ⟨⟨G, i, kc, 0, rfl⟩, HDID.out⟩
          · have hzz' : (z != 0) = true := by simpa using hzz
            go_wp2_with fail
            go_ret2
            exact ⟨⟨none, 0, 0, z, rfl⟩, HDID.out⟩
end Go.Proofs.YtlhaempecidohaaGreatDoor
