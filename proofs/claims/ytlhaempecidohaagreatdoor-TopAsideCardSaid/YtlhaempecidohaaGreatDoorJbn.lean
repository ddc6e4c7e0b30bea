/-
  Package store: places, Tree, plant. Package store: Begin.
-/
import Derived.Test.YtlhaempecidohaaGreatDoorJbl
import Derived.Test.YtlhaempecidohaaGreatDoorJbm
import Derived.Test.YtlhaempecidohaaGreatDoorJbg
set_option linter.unusedSimpArgs false
set_option linter.unusedVariables false
namespace Go.Proofs.YtlhaempecidohaaGreatDoor
open Go.RowKit
theorem fld87 (s : ByteArray) (b c d e f : Value) (w : World) : (Instr.field 87 (.agg #[.string s, b, c, d, e, f]) 0).run Tryz.prog w = .ok (.string s) w := by kernel_rfl
theorem Good.treeOK {F : DiskF} {bs : Boxes} {x : Option (List Nat)} (h : Good F bs x) : TreeOK bs.places := by
  have hr := h.rightTree
  unfold YtlhaempecidohaaGreatDoor.rightTree at hr
  simp only [Bool.and_eq_true, decide_eq_true_eq] at hr
  refine ⟨fun p hp => ?_, fun p hp => ?_, ?_, ?_, hr.2⟩
  · obtain ⟨q, hq, rfl⟩ := List.mem_map.1 hp
    exact h.few q hq
  · obtain ⟨q, hq, rfl⟩ := List.mem_map.1 hp
    exact (h.whole q hq).parts.1
  · have := h.up
    unfold Boxes.nums at this
    rw [List.pairwise_map] at this
    unfold Boxes.places
    rw [List.pairwise_map]
    exact this
  · have := h.apart
    unfold Boxes.places
    rw [List.map_map]
    exact this
/-- what places hands back -/
def PlacesE (w : World) (l : List PlaceS) (e : Ending) (w' : World) : Prop :=
  ∃ A n c, e = .returned (.slice A n c) ∧ RowO w' w.heap.size 113 2 A n c (l.map placeV) ∧ Below w.heap.size w w'
theorem Good.logs_any {w : World} {g m cap : Nat} {F : DiskF} {bs : Boxes} {x : Option (List Nat)} (h : DiskS w g m cap F) (hG : Good F bs x) (hE : Env w) :
    Calls Tryz.prog 62 #[.pointer (some ⟨g, 0, none⟩)] w (LogsE w bs.nums) := by
  refine YtlhaempecidohaaGreatDoor.logs_any h hG.names bs.nums hG.up (fun n hn => ?_) (fun n hn hi => hG.logs n hn hi) (fun n hn => ?_) hE
  · obtain ⟨p, hp, rfl⟩ := List.mem_map.1 hn
    exact hG.few p hp
  · obtain ⟨p, hp, rfl⟩ := List.mem_map.1 hn
    exact ⟨_, hG.log p hp⟩
set_option maxRecDepth 8000 in
set_option maxHeartbeats 2000000 in
theorem places_any {w : World} {g m cap : Nat} {F : DiskF} {bs : Boxes} {x : Option (List Nat)} (h : DiskS w g m cap F) (hG : Good F bs x) (hE : Env w) :
    Calls Tryz.prog 58 #[.pointer (some ⟨g, 0, none⟩)] w (PlacesE w bs.places) := by
  have HL := Lib.hid (Good.logs_any h hG hE)
  have hlen16 := hG.len
  have HG := Lib.hid hG
  have H := Lib.hid h
  have HE := Lib.hid hE
  clear h hG hE
  go_enter Tryz.func58, Tryz.ntmps58
  go_wp2_with fail
  refine HL.out.mono ?_
  rintro e w1 ⟨A, n, c, rfl, hr, hb1⟩
  have hbn : bs.length = n := by have := hr.len; rw [List.length_map] at this; unfold Boxes.nums at this; rwa [List.length_map] at this
  have HR := Lib.hid hr.read
  have HB1 := Lib.hid hb1
  have HBN : Hid (bs.length = n) := hbn
  have hn16 : n ≤ 16 := by omega
  clear hr hb1 hbn HL
  go_wp2_with fail
  go_loopw [3, 11] (fun v3 v11 wr => ∃ (i : Nat) (G : Option Addr) (kc : Nat), i ≤ n ∧ v3 = .slice G i kc ∧ v11 = .int .i64 (i : Int) ∧ RowO wr w1.heap.size 113 2 G i kc ((bs.places.take i).map placeV) ∧ Below w1.heap.size w1 wr) (fun _ v11 _ => n - (intOf v11).toNat)
  case atStart => exact ⟨0, none, 0, Nat.zero_le _, rfl, rfl, RowO.nil _ _ _ _, Below.refl _ _⟩
  case round =>
    obtain ⟨i, G, kc, hi, rfl, rfl, hrow, hb⟩ := hrel
    have HROW := Lib.hid hrow
    have HB := Lib.hid hb
    have HBW := Lib.hid (HB1.out.trans (hb.mono HB1.out.size))
    clear hrow hb
    by_cases hlt : i < n
    · obtain ⟨p, hp⟩ : ∃ p, bs[i]? = some p := ⟨_, List.getElem?_eq_getElem (by rw [HBN.out]; exact hlt)⟩
      have hpm := List.mem_of_getElem? hp
      have hp16 := HG.out.few p hpm
      have hwh := HG.out.whole p hpm
      obtain ⟨r1, -, -⟩ := names_right p.1 hp16
      have hRd : ∀ w', Below w.heap.size w w' → Calls Tryz.prog 9 #[.pointer (some ⟨g, 0, none⟩), .string (logN p.1)] w' (GotB w' (logB p.2.ns)) := fun w' hb => read_yes (H.out.below hb) (right_size r1) (HG.out.log p hpm)
      have hll : (logB p.2.ns).length ≤ 4194304 := by have := total_get (HG.out.log p hpm); have := H.out.fits; have := H.out.most; have e : (safeF (logB p.2.ns)).b.length = (logB p.2.ns).length := rfl; omega
      obtain ⟨gA, v, hA, hv, -, hc⟩ := (HR.out.below HB.out).at_ hlt
      subst hA
      have hvv : v = iV p.1 := by
        unfold Boxes.nums at hv
        rw [List.map_map, List.getElem?_map, hp] at hv
        injection hv with hv
        exact hv.symm
      rw [hvv] at hc
      have hcell : wr.cell? ⟨gA, i, none⟩ = some (.int .i64 (p.1 : Int)) := by have := hc 0 _ rfl; rwa [Nat.mul_one, Nat.add_zero] at this
      have htk : (bs.places.take (i + 1)) = bs.places.take i ++ [(p.1, p.2.l.name)] := by
        have hpp : bs.places[i]? = some (p.1, p.2.l.name) := by unfold Boxes.places; rw [List.getElem?_map, hp]; rfl
        obtain ⟨h1, h2⟩ := List.getElem?_eq_some_iff.1 hpp
        rw [List.take_succ_eq_append_getElem h1, h2]
      have HRD := Lib.hid hRd
      have HTK := Lib.hid htk
      have HFM := Lib.hid hwh.formed
      have HF := Lib.hid (fun w => logf_any p.1 hp16 w)
      clear hp hpm hwh r1 hRd hv hc hvv htk
      go_wp2_with fail
      refine (HF.out wr).mono ?_
      rintro e w2 ⟨rfl, rfl⟩
      go_wp2_with fail
      refine (HRD.out w2 HBW.out).mono ?_
      rintro e w3 ⟨A3, c3, rfl, hown, hb3⟩
      have HRL := Lib.hid (read_any A3 (logB p.2.ns).length c3 p.2.ns w3 HFM.out hown.read hown.le (by omega) ((HE.out.below HBW.out).below hb3))
      have HB3 := Lib.hid hb3
      clear hown hb3
      go_wp2_with fail
      refine HRL.out.mono ?_
      rintro e w4 ⟨A4, n4, c4, vs4, rfl, -, -, hb4⟩
      have HB4 := Lib.hid (HB3.out.trans (hb4.mono HB3.out.size))
      have HRW4 := Lib.hid (HROW.out.below (HB3.out.trans (hb4.mono HB3.out.size)))
      have hz : w1.heap.size ≤ w4.heap.size := Nat.le_trans HB.out.size (HB3.out.trans (hb4.mono HB3.out.size)).size
      have hf := fun (w : World) => fld87 (readS p.2.ns).name (.int .u32 ((readS p.2.ns).epoch : Int)) (.int .u32 ((readS p.2.ns).next : Int)) (.slice A4 n4 c4) (.int .i64 ((logB p.2.ns).length : Int)) (.bool (cleanS (readS p.2.ns))) w
      clear hb4 HB3 HRL
      unfold logCells
      go_wp2_with (at_builtin; refine wp_append_row rfl (.tmp 22) (.tmp 28) 108 113 2 _ 24 und108 inf113 rfl (by decide) (by decide) rfl rfl rfl (HRW4.out.below ((Below.refl _ _).alloc (Nat.le_refl _) _)) (range_new w4 (placeV (p.1, (readS p.2.ns).name)) 113) rfl (by simp [placeV, Value.oneCell']) (by omega) (by simp; omega) ?_; intro G5 c5 w5 hro5 ho5 hbk5; have HRO5 := Lib.hid hro5; have HO5 := Lib.hid ho5; have hb5 := (Below.refl w4.heap.size w4).alloc (Nat.le_refl _) (.cells (placeV (p.1, (readS p.2.ns).name)).toArray 113); have HB5 := Lib.hid hb5; clear hro5 ho5 hbk5 hb5)
      have hrl := HRW4.out.lt
      refine ⟨⟨i + 1, G5, c5, hlt, rfl, by first | rfl | (congr 1), ?_, ?_⟩, by simp [intOf]; omega⟩
      · rw [HTK.out, List.map_append]
        exact HRO5.out
      · exact HB.out.trans (((HB4.out.trans (HB5.out.mono HB4.out.size)).mono HB.out.size).trans (HO5.out.below (Nat.le_trans hz HB5.out.size) (fun b hb e => by have := (hrl b e).1; omega)))
    · obtain rfl : i = n := by omega
      have hrow := HROW.out
      rw [List.take_of_length_le (by unfold Boxes.places; rw [List.length_map, HBN.out]; exact Nat.le_refl _)] at hrow
      have HRW := Lib.hid (hrow.more (B := w.heap.size) (fun q hq => Nat.le_trans HB1.out.size (hrow.lt q hq).1))
      clear hrow
      go_wp2_with fail
      go_ret
      exact ⟨G, i, kc, rfl, HRW.out, HBW.out⟩
set_option maxRecDepth 8000 in
set_option maxHeartbeats 1000000 in
theorem tree_any {w : World} {g m cap : Nat} {F : DiskF} {bs : Boxes} {x : Option (List Nat)} (h : DiskS w g m cap F) (hG : Good F bs x) (hE : Env w) :
    Calls Tryz.prog 81 #[.pointer (some ⟨g, 0, none⟩)] w (Ended w (treeB bs.places) 0) := by
  have HP := Lib.hid (places_any h hG hE)
  have HT := Lib.hid hG.treeOK
  have HE := Lib.hid hE
  clear h hG hE
  go_enter Tryz.func81, Tryz.ntmps81
  go_wp2_with fail
  refine HP.out.mono ?_
  rintro e w1 ⟨A, n, c, rfl, hr, hb1⟩
  have HPT := Lib.hid (putTree_any bs.places A n c w1 hr.read hr.le HT.out (HE.out.below hb1))
  have HB1 := Lib.hid hb1
  clear hr hb1 HP
  go_wp2_with fail
  refine HPT.out.mono ?_
  rintro e w2 h
  have h := h.more HB1.out
  obtain ⟨A', n', c', rfl, hown, hb⟩ := h
  have HO := Lib.hid hown
  have HB := Lib.hid hb
  clear hown hb
  go_wp2_with fail
  go_ret2
  exact ⟨A', n', c', rfl, HO.out, HB.out⟩
set_option maxRecDepth 8000 in
set_option maxHeartbeats 1000000 in
theorem plant_any {w : World} {g m cap : Nat} {F : DiskF} {bs : Boxes} {x : Option (List Nat)} (h : DiskS w g m cap F) (hG : Good F bs x) (hE : Env w) (hfit : F.total + (treeB bs.places).length ≤ cap) :
    Calls Tryz.prog 66 #[.pointer (some ⟨g, 0, none⟩)] w (Changed w g m cap F treeN (some (safeF (treeB bs.places)))) := by
  have HT := Lib.hid (tree_any h hG hE)
  have H := Lib.hid h
  have HN := Lib.hid hG.new
  clear h hG hE
  go_enter Tryz.func66, Tryz.ntmps66
  go_wp2_with fail
  refine HT.out.mono ?_
  rintro e w1 ⟨A, n, c, rfl, hown, hb1⟩
  have hL := lay_any (H.out.below hb1) (s := treeN) (by decide +kernel) (by decide) HN.out hown.read hown.le (by rw [← hown.read.1]; exact hfit)
  unfold treeN at hL
  have HL := Lib.hid hL
  have HB1 := Lib.hid hb1
  clear hown hb1 hL HT
  go_wp2_with fail
  refine HL.out.mono ?_
  rintro e w2 ⟨rfl, F', hd, hu, ho⟩
  have HD := Lib.hid hd
  have HU := Lib.hid hu
  have HO := Lib.hid ((Only.of_below HB1.out (DB g m)).trans ho (fun _ _ h => h))
  clear hd hu ho
  go_wp2_with fail
  go_ret
  exact ⟨rfl, F', HD.out, HU.out, HO.out⟩
end Go.Proofs.YtlhaempecidohaaGreatDoor
namespace Go.Proofs.YtlhaempecidohaaGreatDoor
open Go.RowKit
/-- the first note of a mailbox -/
def firstN (nm : ByteArray) : Note := ⟨1, 1, nm, ⟨0, 0, 0, []⟩⟩
def BoxSt.first (nm : ByteArray) : BoxSt := ⟨[firstN nm], flagsOf (readS [firstN nm]) []⟩
theorem first_formed {nm : ByteArray} (h : named nm = true) : Formed [firstN nm] := fun n hn => by
  rw [List.mem_singleton.1 hn]
  refine ⟨?_, ⟨by show (1 : Nat) < 4294967296; decide, ⟨by show (0 : Nat) < 4294967296; decide, fun x hx => by cases hx⟩⟩⟩
  unfold formed firstN
  simp [h, bareMsg]
theorem first_read (nm : ByteArray) : readS [firstN nm] = ⟨nm, 1, 1, []⟩ := by
  unfold readS takeAll takeAll takeS firstN LogS.start
  simp
theorem first_bytes (nm : ByteArray) : frameB (firstN nm).kind.toNat (encode (firstN nm)) = logB [firstN nm] := by
  unfold logB
  rw [List.map_cons, List.map_nil]
  unfold pair
  rw [show frames [((firstN nm).kind.toNat, encode (firstN nm))] = frameB (firstN nm).kind.toNat (encode (firstN nm)) ++ [] from rfl, List.append_nil]
theorem first_len {nm : ByteArray} (h : named nm = true) : (logB [firstN nm]).length ≤ 200 := by
  have h1 := named_size h
  have e : logB [firstN nm] = frameB 1 (encode (firstN nm)) ++ [] := rfl
  have e2 : encode (firstN nm) = beb 1 4 ++ textB nm := by unfold encode firstN; simp
  rw [e, List.append_nil, frameB_length, e2, List.length_append, beb_length, textB_length]
  omega
theorem first_ok {nm : ByteArray} (h : named nm = true) : pagesOk (readS [firstN nm]) (logB [firstN nm]).length [] = true := by
  have hl := first_len h
  have h2 := named_size h
  generalize (logB [firstN nm]).length = t at hl
  rw [first_read]
  have hne : nm ≠ ByteArray.empty := fun e => by rw [e] at h; revert h; decide +kernel
  have hs : LogS.sound ⟨nm, 1, 1, []⟩ = true := by unfold LogS.sound cleanS cleanFrom; simp [hne]
  unfold pagesOk flagsOf ofF ofI
  rw [if_pos hs, if_pos hs]
  unfold rightFlg rightIdx
  simp only [List.map_nil, flgFrom, idxFrom, List.length_nil, h]
  simp
  omega
theorem first_whole {nm : ByteArray} (h : named nm = true) : Whole (BoxSt.first nm).ns (BoxSt.first nm).f := by
  have := whole_more (b := ⟨[], ⟨0, []⟩⟩) (l := [firstN nm]) (marks := []) (fun n hn => by cases hn) (first_formed h) (first_ok h)
  exact this
theorem first_name (nm : ByteArray) : (BoxSt.first nm).l.name = nm := by show (readS [firstN nm]).name = nm; rw [first_read]
/-- what Begin lays -/
def firstLen (nm : ByteArray) : Nat := (logB [firstN nm]).length + (flgB (BoxSt.first nm).f).length + (idxB (BoxSt.first nm).idx).length
/-- what Begin hands back -/
def BeginE (w : World) (g m cap : Nat) (F : DiskF) (n : Nat) (b : BoxSt) (e : Ending) (w' : World) : Prop :=
  e = .returned (.int .i64 0) ∧ ∃ F', DiskS w' g m cap F' ∧ Laid F F' n b ∧ Only (DB g m) w w'
set_option maxRecDepth 8000 in
set_option maxHeartbeats 2000000 in
theorem begin_any {w : World} {g m cap : Nat} {F : DiskF} (h : DiskS w g m cap F) (n : Nat) (hn : n < 16) (nm : ByteArray) (hnm : named nm = true) (hlog : AL.get F (logN n) = none) (hnew : AL.get F newN = none) (hE : Env w)
    (hg9 : 9 ≤ g ∧ 9 ≤ m) (hfit : F.total + firstLen nm ≤ cap) :
    Calls Tryz.prog 65 #[.pointer (some ⟨g, 0, none⟩), .int .i64 (n : Int), .string nm] w (BeginE w g m cap F n (BoxSt.first nm)) := by
  obtain ⟨hf, hw⟩ := first_formed hnm (firstN nm) (by simp)
  have hFr := frame_note (firstN nm) none 0 0 hf hw w (RB.nil _ _) hE
  have hfb : frameB (firstN nm).kind.toNat (encode (firstN nm)) = logB [firstN nm] := first_bytes nm
  rw [hfb] at hFr
  have hl200 := first_len hnm
  have hfm := first_formed hnm
  have hpo := first_ok hnm
  have hrs := first_read nm
  have hns : (readS [firstN nm]).name.size ≤ 1000000 := by rw [hrs]; have := named_size hnm; show nm.size ≤ _; omega
  have hlv0 : (readS [firstN nm]).live.length ≤ 10000000 := by rw [hrs]; exact Nat.zero_le _
  have hb1 : BoxSt.first nm = ⟨[firstN nm], flagsOf (readS [firstN nm]) []⟩ := rfl
  have hfit' : F.total + ((logB [firstN nm]).length + (flgB (flagsOf (readS [firstN nm]) [])).length + (idxB (ofI (readS [firstN nm]) (logB [firstN nm]).length)).length) ≤ cap := hfit
  rw [hb1]
  obtain ⟨NS, hNS⟩ : ∃ NS, NS = [firstN nm] := ⟨_, rfl⟩
  rw [← hNS] at hFr hl200 hfm hpo hns hlv0 hfit' ⊢
  have HFM := Lib.hid hfm
  have HPO := Lib.hid hpo
  clear hNS hrs hb1 hfm hpo hfit
  obtain ⟨r1, r2, r3⟩ := names_right n hn
  obtain ⟨a1, a2, a3, a4, a5, a6⟩ := names_apart n hn
  have hin := names_inj n hn n hn
  have HFR := Lib.hid hFr
  have H := Lib.hid h
  have HLG := Lib.hid hlog
  have HN := Lib.hid hnew
  have HE := Lib.hid hE
  have HR1 := Lib.hid r1
  have HA2 := Lib.hid a2
  have HIN := Lib.hid hin
  have HF := Lib.hid (fun w => logf_any n hn w)
  have hg9a := hg9.1
  have hg9b := hg9.2
  unfold noteV noteCells msgCells firstN at HFR
  dsimp only [List.cons_append, List.nil_append] at HFR
  clear hFr hf hw h hlog hnew hE hnm r1 r2 r3 a1 a2 a3 a4 a5 a6 hin hfb hg9
  go_enter Tryz.func65, Tryz.ntmps65
  go_wp2_with fail
  refine HFR.out.mono ?_
  rintro e w1 ⟨A1, n1, c1, rfl, hown, hb1⟩
  have hn1 : n1 = (logB NS).length := hown.read.1.symm
  have HN1 := Lib.hid hn1
  have hap := append_any (H.out.below hb1) HR1.out hown.read hown.le (by omega)
  rw [HLG.out] at hap
  have HAP := Lib.hid hap
  have HOW := Lib.hid hown
  have HB1 := Lib.hid hb1
  clear hap hown hb1 HFR hn1
  go_wp2_with fail
  refine (HF.out w1).mono ?_
  rintro e w1' ⟨rfl, rfl⟩
  go_wp2_with fail
  refine HAP.out.mono ?_
  rintro e w2 ⟨rfl, F2, hd2, hu2, ho2⟩
  have hsy := sync_any hd2 (s := logN n) (right_size HR1.out) hu2.same
  have HSY := Lib.hid hsy
  have HU2 := Lib.hid hu2
  have HO2 := Lib.hid ho2
  have HRB2 := Lib.hid (HOW.out.read.keep ho2 (H.out.below HB1.out).noB)
  have HD2 := Lib.hid hd2
  clear hsy hd2 hu2 ho2
  go_wp2_with fail
  refine (HF.out w2).mono ?_
  rintro e w2' ⟨rfl, rfl⟩
  go_wp2_with fail
  refine HSY.out.mono ?_
  rintro e w3 ⟨rfl, F3, hd3, hu3, ho3⟩
  have hrb3 := HRB2.out.keep ho3 HD2.out.noB
  have ho13 := HO2.out.trans ho3 (fun _ _ h => h)
  have hE3 : Env w3 := (HE.out.below HB1.out).only ho13 (fun b hb => by rcases hb with rfl | rfl <;> omega)
  have hrd := read_any A1 n1 c1 NS w3 HFM.out hrb3 HOW.out.le (by have := HN1.out; omega) hE3
  have HRD := Lib.hid hrd
  have HD3 := Lib.hid hd3
  have HU3 := Lib.hid hu3
  have HO3 := Lib.hid ho13
  have HE3 := Lib.hid hE3
  clear hrd hd3 hu3 ho3 ho13 hrb3 hE3
  go_wp2_with fail
  refine HRD.out.mono ?_
  rintro e w4 ⟨A4, n4, c4, vs4, rfl, hr4, ha4, hb4⟩
  have hlv : LogV w4 (.agg (logCells (readS NS) (.slice A4 n4 c4) (n1 : Int) (cleanS (readS NS))).toArray) (readS NS) (logB NS).length := by
    rw [← HN1.out]
    exact ⟨A4, n4, c4, vs4, rfl, hr4.read, ha4.mono LiveA.r⟩
  have hok := readS_ok HFM.out
  have hg3 : ∀ s, AL.get F3 s = if s = logN n then some (safeF (logB NS)) else AL.get F s := fun s => by
    rw [HU3.out s]
    split
    · rfl
    · rename_i hne
      rw [HU2.out s, if_neg hne]
  have hnew3 : AL.get F3 newN = none := by rw [hg3, if_neg (fun e => HA2.out e.symm)]; exact HN.out
  have htot : F3.total = F.total + (logB NS).length := by
    have h2 := HU2.out.total H.out.nodup HD2.out.nodup
    have h3 := HU3.out.total HD2.out.nodup HD3.out.nodup
    rw [HLG.out] at h2
    rw [HU2.out.same] at h3
    have e1 : lenF (none : Option FileS) = 0 := rfl
    have e2 : lenF (some (grownF none (logB NS))) = (logB NS).length := rfl
    have e3 : ∀ f : FileS, lenF (some (safeF f.b)) = lenF (some f) := fun f => rfl
    rw [e3] at h3
    omega
  have hpg := pagesf_any (HD3.out.below hb4) n hn hnew3 (readS NS) (logB NS).length _ none 0 0 [] hlv hok hns hlv0 (RowR.nil _ _ _) (by omega) (HE3.out.below hb4) HPO.out (by
    rw [htot]
    omega)
  have HPG := Lib.hid hpg
  have HG3 := Lib.hid hg3
  have HB4 := Lib.hid hb4
  clear hr4 ha4 hb4 hlv hok hg3 hnew3 htot hpg HRD
  go_wp2_with fail
  refine HPG.out.mono ?_
  rintro e w5 ⟨rfl, F5, hd5, ht5, ho5⟩
  have HD5 := Lib.hid hd5
  have HT5 := Lib.hid ht5
  have HO5 := Lib.hid (((Only.of_below HB1.out (DB g m)).trans HO3.out (fun _ _ h => h)).trans ((Only.of_below HB4.out (DB g m)).trans ho5 (fun _ _ h => h)) (fun _ _ h => h))
  clear hd5 ht5 ho5
  go_wp2_with fail
  go_ret
  refine ⟨rfl, F5, HD5.out, fun s => ?_, HO5.out⟩
  rw [HT5.out s, HG3.out s]
  rfl
end Go.Proofs.YtlhaempecidohaaGreatDoor
