/-
  Package disk: Append, Sync: a file grows; is made safe. Package disk: Sync, Remove of what isn't there, Rename.
-/
import Derived.StillTailTactics
import Derived.Test.YtlhaempecidohaaGreatDoorJao
import Derived.Test.YtlhaempecidohaaGreatDoorJal
import Derived.Test.YtlhaempecidohaaGreatDoorJak
set_option linter.unusedSimpArgs false
set_option linter.unusedVariables false
namespace Go.Proofs.YtlhaempecidohaaGreatDoor
open Go.RowKit
/-- a file that has grown -/
def grownF (o : Option FileS) (l : List Nat) : FileS := match o with | some f => ⟨f.b ++ l, f.safe, f.ever⟩ | none => ⟨l, 0, false⟩
/-- what is done to one file of a disk -/
def Changed (w : World) (g m cap : Nat) (F : DiskF) (s : ByteArray) (v : Option FileS) (e : Ending) (w' : World) : Prop :=
  e = .returned (.int .i64 0) ∧ ∃ F', DiskS w' g m cap F' ∧ Upd F F' s v ∧ Only (DB g m) w w'
section
variable {w : World} {g m cap : Nat} {F : DiskF}
theorem DiskS.drew (h : DiskS w g m cap F) : DiskS w.drew g m cap F := ⟨h.cells, h.map, h.fits, h.most⟩
theorem DiskS.drewN (h : DiskS w g m cap F) (n : Nat) : DiskS (w.drewN n) g m cap F := ⟨h.cells, h.map, h.fits, h.most⟩
/-- a disk behind a store into its map -/
theorem DiskS.stored {w' : World} {L : AL Value} {s : ByteArray} {v : Value} {f : FileS} (h : DiskS w g m cap F) (hF : FilesV w L F) (hv : FileV w v f) (hm' : MapS w' m (AL.put L s v)) (ho : Only (fun k => k = m) w w') (hfit : F.total + f.b.length ≤ cap + lenF (AL.get F s)) :
    DiskS w' g m cap (AL.put F s f) := by
  have hno : ∀ b, b = m → NoB w b := fun b e => h.noB b (.inr e)
  refine ⟨ho.heap h.cells h.ne, ⟨_, hm', FilesV.put (hv.keep ho hno) (hF.keep ho hno)⟩, ?_, h.most⟩
  have := (Upd.put F s f).total h.nodup (AL.nodup_put h.nodup s f)
  unfold lenF at this hfit
  simp only [Option.map_some, Option.getD_some] at this
  omega
end
/-- what a look-up finds: a file, or the empty one -/
theorem FilesV.found {w : World} {F : DiskF} {L : AL Value} (hF : FilesV w L F) (s : ByteArray) (l : List Nat) :
    ∃ A0 n0 c0, ∃ sf : Nat, ∃ ev had old, looked L s (.agg #[.slice none 0 0, .int .i64 0, .bool false]) true = .tuple #[.agg #[.slice A0 n0 c0, .int .i64 (sf : Int), .bool ev], .bool had] ∧ RB w A0 n0 old ∧ n0 ≤ c0 ∧
      grownF (AL.get F s) l = ⟨old ++ l, sf, ev⟩ ∧ lenF (AL.get F s) = n0 ∧ n0 ≤ F.total := by
  cases hg : AL.get F s with
  | none =>
    refine ⟨none, 0, 0, 0, false, false, [], ?_, RB.nil _ _, Nat.le_refl _, rfl, rfl, Nat.zero_le _⟩
    unfold looked
    rw [(FilesV.get (n := s) hF).1 hg]
    rfl
  | some f =>
    obtain ⟨v, hv, A, n, c, rfl, hrb, hnc⟩ := (FilesV.get (n := s) hF).2 f hg
    refine ⟨A, n, c, f.safe, f.ever, true, f.b, ?_, hrb, hnc, rfl, hrb.1, by rw [← hrb.1]; exact total_get hg⟩
    unfold looked
    rw [hv]
    rfl
set_option maxRecDepth 8000 in
set_option maxHeartbeats 1000000 in
theorem append_any {w : World} {g m cap : Nat} {F : DiskF} (h : DiskS w g m cap F) {s : ByteArray} (hs : rightN s = true) {A : Option Addr} {n c : Nat} {l : List Nat} (hl : RB w A n l) (hc : n ≤ c) (hfit : F.total + n ≤ cap) :
    Calls Tryz.prog 100 #[.pointer (some ⟨g, 0, none⟩), .string s, .slice A n c] w (Changed w g m cap F s (some (grownF (AL.get F s) l))) := by
  have hmost := h.most
  have hroom := room_any h
  have hn : ¬ ((cap - F.total : Nat) : Int) < (n : Int) := by omega
  have hn1 : n ≤ 4194304 := by omega
  have hs40 := right_size hs
  have H := Lib.hid h
  have HR := Lib.hid hl
  have HS := Lib.hid hs
  have HS2 := size40 hs40
  clear h hl hs
  go_enter Tryz.func100, Tryz.ntmps100
  go_wp2_with fail
  refine (gone_ok H.out).mono ?_
  rintro e w' ⟨rfl, rfl⟩
  go_wp2_with fail
  refine (right_yes HS.out w).mono ?_
  rintro e w' ⟨rfl, rfl⟩
  go_wp2_with fail
  refine hroom.mono ?_
  rintro e w1 ⟨rfl, hb1⟩
  have h1 := H.out.below hb1
  have hr1 := HR.out.below hb1
  obtain ⟨L, hL, hF⟩ := h1.map
  have c1 := h1.c1
  have H1 := Lib.hid h1
  have HR1 := Lib.hid hr1
  have HL := Lib.hid hL
  have HF := Lib.hid hF
  have HB1 := Lib.hid hb1
  clear h1 hr1 hL hF hb1 hroom
  obtain ⟨A0, n0, c0, sf, ev, had, old, hlk, hold, hc0, hgr, hlen0, hn0⟩ := HF.out.found s l
  have HLK := Lib.hid hlk
  have HGR := Lib.hid hgr
  have HLEN0 := Lib.hid hlen0
  have hgm := H1.out.lt
  clear hlk hgr hlen0
  go_wp2_with (at_lookup; refine wpList_look _ rfl (.tmp 30) (.tmp 31) 76 true rfl 9 75 Tryz.underlying76 Tryz.underlying9 _ (zero75 _) m _ rfl HL.out s rfl HS2.out ?_; rw [HLK.out])
  have hba : Below w1.heap.size w1 (w1.alloc (.cells #[.slice A0 n0 c0, .int .i64 (sf : Int), .bool ev] 75)) := (Below.refl _ _).alloc (Nat.le_refl _) _
  have hrow0 := heap_alloc_new w1 (.cells #[.slice A0 n0 c0, .int .i64 (sf : Int), .bool ev] 75)
  have ha := H1.out.below hba
  have HRa := Lib.hid (HR1.out.below hba)
  have HOa := Lib.hid (hold.below hba)
  refine (burns_no ha).mono ?_
  rintro e w2 ⟨rfl, h2, ho2⟩
  have hnd : ¬ DB g m w1.heap.size := by rintro (e | e) <;> omega
  obtain ⟨hcs, hfs, hrow⟩ := ho2.row hrow0 hnd
  have q0 := hcs 0
  have q1 := hcs 1
  have q2 := hcs 2
  have f0 := hfs 0
  have HR2 := Lib.hid (HRa.out.keep ho2 ha.noB)
  have HO2 := Lib.hid (HOa.out.keep ho2 ha.noB)
  have hsz2 := ho2.size
  simp at hsz2
  have H2 := Lib.hid h2
  have HD2 := Lib.hid ho2
  have HROW := Lib.hid hrow
  have c21 := h2.c1
  clear hba hrow0 ha hold h2 ho2 hnd hcs hfs hrow HRa HOa
  simp at q0 q1 q2
  have hsl := Sls.pair HO2.out hc0 HR2.out hc 23
  have hlen : [old, l].flatten.length = n0 + n := by rw [show [old, l].flatten = old ++ l by simp, List.length_append, HO2.out.1, HR2.out.1]
  have hcc := concat_any _ 2 2 _ _ hsl (by omega) (by rw [hlen]; omega)
  rw [show [old, l].flatten = old ++ l by simp] at hcc hlen
  obtain ⟨nl, hnl⟩ : ∃ x, x = old ++ l := ⟨_, rfl⟩
  rw [← hnl] at hcc hlen
  have HNL := Lib.hid hnl
  have HLN := Lib.hid hlen
  clear hsl hlen hnl
  go_wp2_with (go_at_call 128; refine hcc.mono ?_; rintro e w3 ⟨A3, c3, rfl, hown3, hb3⟩; have hba := ((Below.refl w2.heap.size w2).alloc (Nat.le_refl _) (.cells #[.slice A0 n0 c0, .slice A n c] 23)).trans (hb3.mono (by simp)); have HBA := Lib.hid hba; have HO3 := Lib.hid hown3; have hrow3 := (Only.of_below hba (fun _ => False)).row HROW.out (fun h => h); obtain ⟨x1, x2, x3⟩ := hrow3; have f30 := x2 0; have q30 := x1 0; have q31 := x1 1; have q32 := x1 2; simp at q30 q31 q32; have HX3 := Lib.hid x3; clear x1 x2 x3 hba hb3 hown3)
  obtain ⟨w4, hw4⟩ : ∃ w4, w4 = w3.setCell ⟨w1.heap.size, 0, none⟩ (.slice A3 nl.length c3) := ⟨_, rfl⟩
  have hB1 := HBA.out.size
  have hB0 := HB1.out.size
  have hx4 : w4.heap[w1.heap.size]? = some (.cells #[.slice A3 nl.length c3, .int .i64 (sf : Int), .bool ev] 75 (0, 0)) := by rw [hw4]; exact blk_set HX3.out 0 _
  have ho4 : Only (fun k => k = w1.heap.size) w3 w4 := by rw [hw4]; exact only_set w3 w1.heap.size 0 _
  have hnb : ∀ b, b = w1.heap.size → NoB w3 b := fun b e => by rw [e]; exact NoB.cells HX3.out (by intro j x; rcases j with _ | _ | _ | j <;> simp)
  have hD4 : DiskS w4 g m cap F := (H2.out.below HBA.out).only ho4 hnb (by omega) (by omega)
  have hR4 : RB w4 A3 nl.length nl := HO3.out.read.keep ho4 hnb
  have hO4 : Only (DB g m) w w4 := ((((Only.of_below HB1.out (DB g m)).alloc _).trans HD2.out (fun i _ hi => hi)).trans (Only.of_below HBA.out (DB g m)) (fun i _ hi => hi)).trans ho4 (fun i hi e => by omega)
  have c3le := HO3.out.le
  have r0 : w4.cell? ⟨w1.heap.size, 0, none⟩ = some (.slice A3 nl.length c3) := cell_of_row w4 _ 0 _ _ _ hx4
  have r1 : w4.cell? ⟨w1.heap.size, 1, none⟩ = some (.int .i64 (sf : Int)) := cell_of_row w4 _ 1 _ _ _ hx4
  have r2 : w4.cell? ⟨w1.heap.size, 2, none⟩ = some (.bool ev) := cell_of_row w4 _ 2 _ _ _ hx4
  have c41 := hD4.c1
  rw [← hw4]
  obtain ⟨L4, hL4, hF4⟩ := hD4.map
  have HD4 := Lib.hid hD4
  have HR4 := Lib.hid hR4
  have HO4 := Lib.hid hO4
  have HL4 := Lib.hid hL4
  have HF4 := Lib.hid hF4
  clear hw4 hx4 ho4 hnb hD4 hR4 hO4 hL4 hF4 q0 q1 q2 q30 q31 q32 f0 f30 c21 HX3 HO3 HBA HD2 H2 HROW HR2 HO2
  go_still_tail 6, (by kernel_rfl)
  change wpList _ _ _ _ _ w4.drew
  go_wp2_with (at_mapUpdate; refine wpList_mstore _ rfl (.tmp 62) (.tmp 63) (.tmp 64) 76 rfl 9 75 Tryz.underlying76 Tryz.underlying9 m L4 rfl HL4.out s rfl HS2.out _ rfl ?_; intro w5 hm5 ho5)
  have hfv : FileV w4.drew (.agg #[.slice A3 nl.length c3, .int .i64 (sf : Int), .bool ev]) (grownF (AL.get F s) l) := by
    rw [HGR.out]
    refine ⟨A3, nl.length, c3, rfl, ?_, c3le⟩
    show RB w4 A3 nl.length (old ++ l)
    have := HR4.out
    rwa [← HNL.out]
  have hD5 := DiskS.stored HD4.out.drew HF4.out hfv hm5 ho5 (by
    rw [HGR.out]
    show F.total + (old ++ l).length ≤ _
    rw [← HNL.out, HLN.out, HLEN0.out]
    omega)
  have hO5 : Only (DB g m) w w5 := HO4.out.drew.trans ho5 (fun i _ e => .inr e)
  have HD5 := Lib.hid hD5
  have HO5 := Lib.hid hO5
  clear hfv hD5 hO5 hm5 ho5 r0 r1 r2 c41
  refine (gone_ok HD5.out).mono ?_
  rintro e w' ⟨rfl, rfl⟩
  go_wp2
  go_ret
  exact ⟨rfl, _, HD5.out, Upd.put F s _, HO5.out⟩
end Go.Proofs.YtlhaempecidohaaGreatDoor
namespace Go.Proofs.YtlhaempecidohaaGreatDoor
open Go.RowKit
set_option maxRecDepth 8000 in
set_option maxHeartbeats 1000000 in
theorem sync_any {w : World} {g m cap : Nat} {F : DiskF} (h : DiskS w g m cap F) {s : ByteArray} (hs : s.size ≤ 40) {f : FileS} (hf : AL.get F s = some f) :
    Calls Tryz.prog 101 #[.pointer (some ⟨g, 0, none⟩), .string s] w (Changed w g m cap F s (some (safeF f.b))) := by
  have hth := there_yes h hs hf
  have htot := total_get hf
  have hfits := h.fits
  have hmost := h.most
  have H := Lib.hid h
  have HF := Lib.hid hf
  have HS2 := size40 hs
  clear h hf hs
  go_enter Tryz.func101, Tryz.ntmps101
  go_wp2_with fail
  refine hth.mono ?_
  rintro e w1 ⟨rfl, hb1⟩
  have h1 := H.out.below hb1
  have HB1 := Lib.hid hb1
  have H1 := Lib.hid h1
  clear h1 hb1 hth
  go_wp2_with fail
  refine (burns_no H1.out).mono ?_
  rintro e w2 ⟨rfl, h2, ho2⟩
  obtain ⟨L, hL, hFV⟩ := h2.map
  obtain ⟨v, hv, A, n, c, rfl, hrb, hnc⟩ := (FilesV.get (n := s) hFV).2 f HF.out
  have hn : f.b.length = n := hrb.1
  have c1 := h2.c1
  have HL := Lib.hid hL
  have HFV := Lib.hid hFV
  have HV := Lib.hid hv
  have HR := Lib.hid hrb
  have H2 := Lib.hid h2
  have HO2 := Lib.hid (((Only.of_below HB1.out (DB g m)).trans ho2 (fun i _ hi => hi) : Only (DB g m) w w2))
  have hn1 : n ≤ 4194304 := by omega
  have HN := Lib.hid hn
  have hgm := h2.lt
  clear h2 ho2 hL hFV hv hrb hn HB1 H1 htot hfits hmost
  go_wp2_with (at_lookup; refine wpList_lk _ rfl (.tmp 18) (.tmp 19) 76 false rfl 9 75 Tryz.underlying76 Tryz.underlying9 _ (zero75 _) m _ rfl HL.out s rfl HS2.out _ HV.out ?_; simp only [Bool.false_eq_true, if_false])
  obtain ⟨w4, hw4⟩ : ∃ w4, w4 = w2.alloc (.cells #[.slice A n c, .int .i64 (n : Int), .bool true] 75) := ⟨_, rfl⟩
  have hx4 : w4.heap[w2.heap.size]? = some (.cells #[.slice A n c, .int .i64 (n : Int), .bool true] 75 (0, 0)) := by rw [hw4]; exact heap_alloc_new w2 _
  have hb4 : Below w2.heap.size w2 w4 := by rw [hw4]; exact (Below.refl _ _).alloc (Nat.le_refl _) _
  have r0 : w4.cell? ⟨w2.heap.size, 0, none⟩ = some (.slice A n c) := cell_of_row w4 _ 0 _ _ _ hx4
  have r1 : w4.cell? ⟨w2.heap.size, 1, none⟩ = some (.int .i64 (n : Int)) := cell_of_row w4 _ 1 _ _ _ hx4
  have r2 : w4.cell? ⟨w2.heap.size, 2, none⟩ = some (.bool true) := cell_of_row w4 _ 2 _ _ _ hx4
  have hD4 := H2.out.below hb4
  have c41 := hD4.c1
  rw [← hw4]
  obtain ⟨L4, hL4, hF4⟩ := hD4.map
  have HD4 := Lib.hid hD4
  have HR4 := Lib.hid (HR.out.below hb4)
  have HO4 := Lib.hid ((HO2.out.trans (Only.of_below hb4 (DB g m)) (fun i _ hi => hi)) : Only (DB g m) w w4)
  have HL4 := Lib.hid hL4
  have HF4 := Lib.hid hF4
  clear hw4 hx4 hb4 hD4 hL4 hF4 c1 HL HFV HV HR H2 HO2
  go_still_tail 6, (by kernel_rfl)
  change wpList _ _ _ _ _ w4.drew
  go_wp2_with (at_mapUpdate; refine wpList_mstore _ rfl (.tmp 29) (.tmp 30) (.tmp 31) 76 rfl 9 75 Tryz.underlying76 Tryz.underlying9 m L4 rfl HL4.out s rfl HS2.out _ rfl ?_; intro w5 hm5 ho5)
  have hfv : FileV w4.drew (.agg #[.slice A n c, .int .i64 (n : Int), .bool true]) (safeF f.b) := ⟨A, n, c, by rw [← HN.out]; rfl, HR4.out, hnc⟩
  have hD5 := DiskS.stored HD4.out.drew HF4.out hfv hm5 ho5 (by
    have := HD4.out.fits
    rw [HF.out]
    show F.total + f.b.length ≤ cap + f.b.length
    omega)
  have hO5 : Only (DB g m) w w5 := HO4.out.drew.trans ho5 (fun i _ e => .inr e)
  have HD5 := Lib.hid hD5
  have HO5 := Lib.hid hO5
  clear hfv hD5 hO5 hm5 ho5 r0 r1 r2 c41
  go_ret
  exact ⟨rfl, _, HD5.out, Upd.put F s _, HO5.out⟩
set_option maxHeartbeats 400000 in
theorem remove_no {w : World} {g m cap : Nat} {F : DiskF} (h : DiskS w g m cap F) {s : ByteArray} (hs : s.size ≤ 40) (hf : AL.get F s = none) :
    Calls Tryz.prog 30 #[.pointer (some ⟨g, 0, none⟩), .string s] w fun e w' => e = .returned (.int .i64 7) ∧ Below w.heap.size w w' := by
  have hth := there_no h hs hf
  clear h hs hf
  go_enter Tryz.func30, Tryz.ntmps30
  go_wp2_with fail
  refine hth.mono ?_
  rintro e w1 ⟨rfl, hb1⟩
  go_wp2
  go_ret
  exact ⟨rfl, hb1⟩
/-- a file that has another name -/
def Renamed (w : World) (g m cap : Nat) (F : DiskF) (a b : ByteArray) (e : Ending) (w' : World) : Prop :=
  e = .returned (.int .i64 0) ∧ ∃ F', DiskS w' g m cap F' ∧ Moved F F' a b ∧ Only (DB g m) w w'
set_option maxRecDepth 8000 in
set_option maxHeartbeats 1000000 in
theorem rename_any {w : World} {g m cap : Nat} {F : DiskF} (h : DiskS w g m cap F) {a b : ByteArray} (ha : a.size ≤ 40) (hb : rightN b = true) (hab : a ≠ b) {l : List Nat} (hf : AL.get F a = some (safeF l)) :
    Calls Tryz.prog 102 #[.pointer (some ⟨g, 0, none⟩), .string a, .string b] w (Renamed w g m cap F a b) := by
  have hth := there_yes h ha hf
  have H := Lib.hid h
  have HF := Lib.hid hf
  have HA2 := size40 ha
  have HB := Lib.hid hb
  have HB2 := size40 (right_size hb)
  have hne : (a.toList == b.toList) = false := by
    rw [beq_eq_false_iff_ne]
    intro e
    apply hab
    rw [ByteArray.toList_eq, ByteArray.toList_eq] at e
    exact ByteArray.ext (Array.toList_inj.1 e)
  have HAB := Lib.hid hab
  clear h hf ha hb hab
  go_enter Tryz.func102, Tryz.ntmps102
  go_wp2_with fail
  refine (gone_ok H.out).mono ?_
  rintro e w' ⟨rfl, rfl⟩
  go_wp2_with fail
  refine (right_yes HB.out w).mono ?_
  rintro e w' ⟨rfl, rfl⟩
  go_wp2_with fail
  refine hth.mono ?_
  rintro e w1 ⟨rfl, hb1⟩
  have h1 := H.out.below hb1
  obtain ⟨L, hL, hFV⟩ := h1.map
  obtain ⟨v, hv, A, n, c, rfl, hrb, hnc⟩ := (FilesV.get (n := a) hFV).2 _ HF.out
  have hn : (safeF l).b.length = n := hrb.1
  have e1 : ((safeF l).safe : Int) = (n : Int) := by rw [← hn]; rfl
  have e2 : (safeF l).ever = true := rfl
  rw [e1, e2] at hv
  have c1 := h1.c1
  have HB1 := Lib.hid hb1
  have H1 := Lib.hid h1
  have HL := Lib.hid hL
  have HV := Lib.hid hv
  clear h1 hL hFV hv hrb hn e1 e2 hb1 hth
  go_wp2_with (at_lookup; refine wpList_lk _ rfl (.tmp 32) (.tmp 33) 76 false rfl 9 75 Tryz.underlying76 Tryz.underlying9 _ (zero75 _) m _ rfl HL.out a rfl HA2.out _ HV.out ?_; simp only [Bool.false_eq_true, if_false])
  refine (whole_yes A n c w1).mono ?_
  rintro e w2 ⟨rfl, hb2⟩
  have H2 := Lib.hid (H1.out.below hb2)
  have HB2' := Lib.hid (HB1.out.trans (hb2.mono HB1.out.size))
  clear hb2
  go_wp2_with fail
  refine (burns_no H2.out).mono ?_
  rintro e w3 ⟨rfl, h3, ho3⟩
  obtain ⟨L3, hL3, hFV3⟩ := h3.map
  obtain ⟨v3, hv3, hvf3⟩ := (FilesV.get (n := a) hFV3).2 _ HF.out
  have c31 := h3.c1
  have hlk := MapS.lookD (P := Tryz.prog) w3 hL3 Tryz.underlying76 Tryz.underlying9 zero75 HA2.out hv3
  have H3 := Lib.hid h3
  have HO3 := Lib.hid ((Only.of_below HB2'.out (DB g m)).trans ho3 (fun i _ hi => hi) : Only (DB g m) w w3)
  have HL3 := Lib.hid hL3
  have HFV3 := Lib.hid hFV3
  have HV3 := Lib.hid hv3
  have HVF3 := Lib.hid hvf3
  clear h3 ho3 hL3 hFV3 hv3 hvf3 HL HV H1 H2 HB1 HB2' c1
  have hl1 : (Instr.lookup 76 (.map (some m)) (.string a) false).run Tryz.prog w3.drew = .ok v3 w3.drew := hlk 1
  go_wp2_with fail
  go_still_tail 11, (by kernel_rfl)
  change wpList _ _ _ _ _ w3.drew
  have hgm := H3.out.ne
  go_wp2_with (first
    | (at_mapUpdate; refine wpList_mstore _ rfl (.tmp 43) (.tmp 44) (.tmp 50) 76 rfl 9 75 Tryz.underlying76 Tryz.underlying9 m L3 rfl HL3.out b rfl HB2.out v3 rfl ?_; intro w5 hm5 ho5; have c51 := ho5.cell (p := ⟨g, 1, none⟩) c31 hgm; have HM5 := Lib.hid hm5; have HO5 := Lib.hid ho5; clear hm5 ho5 c31)
    | (at_delete; refine wpList_mdrop _ rfl (.tmp 54) (.tmp 55) 76 9 rfl 75 Tryz.underlying76 Tryz.underlying9 m _ rfl HM5.out a rfl HA2.out ?_; intro w6 hm6 ho6; have HM6 := Lib.hid hm6; have HO6 := Lib.hid ho6; clear hm6 ho6))
  go_ret
  have hno : ∀ b, b = m → NoB w3.drew b := fun b e => H3.out.drew.noB b (.inr e)
  have hF5 : FilesV w5 (L3.put b v3) (AL.put F b (safeF l)) := FilesV.put ((show FileV w3.drew v3 (safeF l) from HVF3.out).keep HO5.out hno) ((show FilesV w3.drew L3 F from HFV3.out).keep HO5.out hno)
  have hno5 : ∀ b, b = m → NoB w5 b := fun b e => by
    rw [e]
    obtain ⟨es, cl, hm, _⟩ := HM5.out
    exact NoB.map hm
  have hF6 : FilesV w6 (AL.del (L3.put b v3) a) (AL.del (AL.put F b (safeF l)) a) := FilesV.del (hF5.keep HO6.out hno5)
  have hnd := H3.out.nodup
  have hnd5 := AL.nodup_put hnd b (safeF l)
  have hget : Moved F (AL.del (AL.put F b (safeF l)) a) a b := fun s => by
    rw [AL.get_del hnd5, AL.get_put, HF.out]
  have htot : (AL.del (AL.put F b (safeF l)) a).total ≤ cap := by
    have t1 := (Upd.put F b (safeF l)).total hnd hnd5
    have t2 := (Upd.del hnd5 a).total hnd5 (AL.nodup_del hnd5 a)
    rw [AL.get_put_other F _ HAB.out, HF.out] at t2
    have := H3.out.fits
    simp only [lenF, Option.map_some, Option.getD_some, Option.map_none, Option.getD_none] at t1 t2
    omega
  have hD6 : DiskS w6 g m cap (AL.del (AL.put F b (safeF l)) a) := ⟨HO6.out.heap (HO5.out.heap (show w3.drew.heap[g]? = _ from H3.out.cells) hgm) hgm, ⟨_, HM6.out, hF6⟩, htot, H3.out.most⟩
  exact ⟨rfl, _, hD6, hget, (HO3.out.drew.trans HO5.out (fun i _ e => .inr e)).trans HO6.out (fun i _ e => .inr e)⟩
end Go.Proofs.YtlhaempecidohaaGreatDoor
