/-
  Package store: Pages. Package store: Whole, plain parts. Package store: Whole, the walk. Package store: Load. Package store: note.
-/
import Derived.Test.YtlhaempecidohaaGreatDoorJbg
import Derived.Test.YtlhaempecidohaaGreatDoorJbk
import Derived.Test.YtlhaempecidohaaGreatDoorJbc
import Derived.Test.YtlhaempecidohaaGreatDoorJbh
import Derived.Test.YtlhaempecidohaaGreatDoorJbi
import Derived.Test.YtlhaempecidohaaGreatDoorJbf
import Derived.Test.YtlhaempecidohaaGreatDoorJap
set_option linter.unusedSimpArgs false
set_option linter.unusedVariables false
namespace Go.Proofs.YtlhaempecidohaaGreatDoor
open Go.RowKit
/-- two pages laid -/
def Two (F F' : DiskF) (n : Nat) (fl ix : List Nat) : Prop := ∀ s, AL.get F' s = if s = idxN n then some (safeF ix) else if s = flgN n then some (safeF fl) else AL.get F s
/-- what Pages hands back, when all is well -/
def PagesE (w : World) (g m cap : Nat) (F : DiskF) (n : Nat) (fl ix : List Nat) (e : Ending) (w' : World) : Prop :=
  e = .returned (.int .i64 0) ∧ ∃ F', DiskS w' g m cap F' ∧ Two F F' n fl ix ∧ Only (DB g m) w w'
theorem names_right (n : Nat) (h : n < 16) : rightN (logN n) = true ∧ rightN (idxN n) = true ∧ rightN (flgN n) = true :=
  ⟨Nm_right _ (Nm0_sub (names_in n h).1), Nm_right _ (Nm0_sub (names_in n h).2.1), Nm_right _ (Nm0_sub (names_in n h).2.2)⟩
set_option maxRecDepth 8000 in
set_option maxHeartbeats 2000000 in
theorem pagesf_any {w : World} {g m cap : Nat} {F : DiskF} (h : DiskS w g m cap F) (n : Nat) (hn : n < 16) (hnew : AL.get F newN = none) (L : LogS) (t : Nat) (v : Value) (M : Option Addr) (k kc : Nat) (mk : List (Nat × Int)) (hv : LogV w v L t) (hok : L.ok) (hnm : L.name.size ≤ 1000000) (hll : L.live.length ≤ 10000000)
    (hm : RowR w M k 2 (mk.map markV)) (hk : k ≤ 10000000) (hE : Env w) (hp : pagesOk L t mk = true) (hfit : F.total + (flgB (flagsOf L mk)).length + (idxB (ofI L t)).length ≤ cap) :
    Calls Tryz.prog 42 #[.pointer (some ⟨g, 0, none⟩), .int .i64 (n : Int), v, .slice M k kc] w (PagesE w g m cap F n (flgB (flagsOf L mk)) (idxB (ofI L t))) := by
  obtain ⟨A, ln, lc, vs, rfl, hr, hx⟩ := hv
  obtain ⟨ws, hws⟩ : ∃ ws, ws = w.alloc (.cells (logCells L (.slice A ln lc) (t : Int) (cleanS L)).toArray 87) := ⟨_, rfl⟩
  have hbs : Below w.heap.size w ws := by rw [hws]; exact (Below.refl _ _).alloc (Nat.le_refl _) _
  have hg : ws.heap[w.heap.size]? = some (.cells (logCells L (.slice A ln lc) (t : Int) (cleanS L)).toArray 87 (0, 0)) := by rw [hws]; exact heap_alloc_new w _
  have hP := pages_any L t (.agg (logCells L (.slice A ln lc) (t : Int) (cleanS L)).toArray) M k kc mk ws ⟨A, ln, lc, vs, rfl, hr.below hbs, hx.mono (LiveR.below hbs)⟩ hok hnm hll (hm.below hbs) hk (hE.below hbs)
  unfold PgsE at hP
  simp only [hp, if_true] at hP
  obtain ⟨r1, r2, r3⟩ := names_right n hn
  obtain ⟨a1, a2, a3, a4, a5, a6⟩ := names_apart n hn
  have hfi : idxN n ≠ flgN n := fun e => (names_inj n hn n hn).2.2.2.2.2 e
  obtain ⟨fl, hfl⟩ : ∃ l, l = flgB (flagsOf L mk) := ⟨_, rfl⟩
  obtain ⟨ix, hix⟩ : ∃ l, l = idxB (ofI L t) := ⟨_, rfl⟩
  rw [← hfl, ← hix] at hP hfit ⊢
  unfold logCells at hws hg hP ⊢
  have H := Lib.hid (h.below hbs)
  have HP := Lib.hid hP
  have HN := Lib.hid hnew
  have HBS := Lib.hid hbs
  have HWS := Lib.hid hws
  have HR2 := Lib.hid r2
  have HR3 := Lib.hid r3
  have HA4 := Lib.hid a4
  have HA6 := Lib.hid a6
  have HFI := Lib.hid hfi
  have hfile1 := fun w => flgf_any n hn w
  have hfile2 := fun w => idxf_any n hn w
  have HF1 := Lib.hid hfile1
  have HF2 := Lib.hid hfile2
  have d0 := cell_of_row ws _ 0 _ _ _ hg
  have d1 := cell_of_row ws _ 1 _ _ _ hg
  have d2 := cell_of_row ws _ 2 _ _ _ hg
  have d3 := cell_of_row ws _ 3 _ _ _ hg
  have d4 := cell_of_row ws _ 4 _ _ _ hg
  have d5 := cell_of_row ws _ 5 _ _ _ hg
  clear h hr hx hbs hg hP hws hnew hm hE hok hnm hll hp r1 r2 r3 a1 a2 a3 a4 a5 a6 hfi hfile1 hfile2 hfl hix
  go_enter Tryz.func42, Tryz.ntmps42
  go_upto_region 1 with fail
  rw [show World.alloc _ _ = ws from HWS.out.symm]
  go_wp2_with fail
  refine HP.out.mono ?_
  rintro e w1 ⟨A1, n1, c1, A2, n2, c2, rfl, hown1, hown2, hb1⟩
  have HO1 := Lib.hid hown1
  have HO2 := Lib.hid hown2
  have HB1 := Lib.hid hb1
  clear hown1 hown2 hb1 HP d0 d1 d2 d3 d4 d5
  go_wp2_with fail
  refine (HF1.out w1).mono ?_
  rintro e w2 ⟨rfl, rfl⟩
  have hd1 := H.out.below HB1.out
  have hL1 := lay_any hd1 HR3.out HA6.out HN.out HO1.out.read HO1.out.le (by have := HO1.out.read.1; omega)
  have HL1 := Lib.hid hL1
  have HD1 := Lib.hid hd1
  clear hd1 hL1
  go_wp2_with fail
  refine HL1.out.mono ?_
  rintro e w3 ⟨rfl, F3, hd3, hu3, ho3⟩
  have HD3 := Lib.hid hd3
  have HU3 := Lib.hid hu3
  have HO3 := Lib.hid ho3
  have HRB := Lib.hid (HO2.out.read.keep ho3 HD1.out.noB)
  have hn3 : AL.get F3 newN = none := by rw [hu3.other (fun e => HA6.out e.symm)]; exact HN.out
  have htot := hu3.total HD1.out.nodup hd3.nodup
  have htot' : F3.total ≤ F.total + fl.length := by
    have : lenF (some (safeF fl)) = fl.length := rfl
    omega
  clear hd3 hu3 ho3 htot
  go_wp2_with fail
  refine (HF2.out w3).mono ?_
  rintro e w4 ⟨rfl, rfl⟩
  have hL2 := lay_any HD3.out HR2.out HA4.out hn3 HRB.out HO2.out.le (by have := HRB.out.1; omega)
  have HL2 := Lib.hid hL2
  clear hL2 hn3 htot'
  go_wp2_with fail
  refine HL2.out.mono ?_
  rintro e w5 ⟨rfl, F5, hd5, hu5, ho5⟩
  have HD5 := Lib.hid hd5
  have HU5 := Lib.hid hu5
  have HO5 := Lib.hid ((Only.of_below (HBS.out.trans (HB1.out.mono HBS.out.size)) (DB g m)).trans (HO3.out.trans ho5 (fun _ _ h => h)) (fun _ _ h => h))
  clear hd5 hu5 ho5
  go_wp2_with fail
  go_ret
  refine ⟨rfl, F5, HD5.out, fun s => ?_, HO5.out⟩
  rw [HU5.out s]
  split
  · rfl
  · rw [HU3.out s]
end Go.Proofs.YtlhaempecidohaaGreatDoor
namespace Go.Proofs.YtlhaempecidohaaGreatDoor
open Go.RowKit
theorem withFlags_len {l : List LiveS} {f : List (Nat × Int)} (h : f.length = l.length) : (withFlags l f).length = l.length := by
  unfold withFlags
  rw [List.length_zipWith]
  omega
theorem Whole.right {ns : List Note} {f : FlgS} (h : Whole ns f) : rightBox (boxOf (readS ns) f) = true := by
  obtain ⟨p1, p2, p3, p4, p5, p6⟩ := h.parts
  have hok := readS_ok h.formed
  have hb := boxFrom_of (fl := f.L) (ep := (readS ns).epoch) (p := none) h.clean p6 hok.next hok.live h.flags
  unfold rightBox boxOf
  simp only [Bool.and_eq_true, decide_eq_true_eq]
  refine ⟨⟨⟨⟨p1, p2⟩, p3⟩, ?_⟩, hb⟩
  rw [withFlags_len h.length]
  exact p5
theorem mixw {α : Type} (P Q : List α) (hl : P.length = Q.length) (i : Nat) (hi : i < Q.length) (p q : α) (hp : P[i]? = some p) (hq : Q[i]? = some q) :
    (P.take i ++ Q.drop i).set i p = P.take (i + 1) ++ Q.drop (i + 1) ∧ (P.take i ++ Q.drop i)[i]? = some q := by
  have hlt : (P.take i).length = i := by rw [List.length_take]; omega
  obtain ⟨hi1, hp⟩ := List.getElem?_eq_some_iff.1 hp
  obtain ⟨hi2, hq⟩ := List.getElem?_eq_some_iff.1 hq
  rw [List.drop_eq_getElem_cons hi2, hq, List.take_succ_eq_append_getElem hi1, hp]
  refine ⟨?_, ?_⟩
  · rw [List.set_append_right _ _ (by omega), hlt, Nat.sub_self, List.append_assoc]; rfl
  · rw [List.getElem?_append_right (by omega), hlt, Nat.sub_self]; rfl
theorem withFlags_at {l : List LiveS} {f : List (Nat × Int)} {i : Nat} {x : LiveS} {m : Nat × Int} (hx : l[i]? = some x) (hm : f[i]? = some m) : (withFlags l f)[i]? = some { x.msg with flags := m.2 } := by
  unfold withFlags
  rw [List.getElem?_zipWith, hx, hm]
theorem BoxN.drew {w : World} {base g n c : Nat} {A : Option Addr} {vs : List (List Value)} {nm : ByteArray} {ep nx : Nat} {ms : List Msg} (h : BoxN w base g A n c vs nm ep nx ms) : BoxN w.drew base g A n c vs nm ep nx ms :=
  ⟨h.blk, h.row.only (Only.refl (fun _ => False) w).drew (fun _ _ h => h), h.all.mono (fun _ _ h => h), h.ne⟩
theorem boxn_flag {w : World} {base g n c i g' : Nat} {vs : List (List Value)} {nm : ByteArray} {ep nx : Nat} {ms : List Msg} {x : Msg} {B : Option Addr} {m d : Nat}
    (h : BoxN w base g (some ⟨g', 0, none⟩) n c vs nm ep nx ms) (hv : vs[i]? = some (msgCells x (.slice B m d))) (hx : ms[i]? = some x) (z : Int) :
    BoxN (w.setCell ⟨g', i * 4 + 2, none⟩ (.int .i64 z)) base g (some ⟨g', 0, none⟩) n c (vs.set i (msgCells { x with flags := z } (.slice B m d))) nm ep nx (ms.set i { x with flags := z }) ∧ Only (fun b => b = g') w (w.setCell ⟨g', i * 4 + 2, none⟩ (.int .i64 z)) := by
  obtain ⟨p1, p2⟩ := h.row.put1 hv (j := 2) (by omega) (.int .i64 z)
  refine ⟨⟨p2.heap h.blk (fun e => h.ne (by rw [e]; rfl)), p1, ?_, h.ne⟩, p2⟩
  have ha := h.all.mono (MsgA.only p2 (fun q hq => by rw [hq]; rfl))
  obtain ⟨v', hv', hm⟩ := ha.at_ hx
  rw [hv] at hv'
  injection hv' with hv'
  subst hv'
  obtain ⟨B', m', d', e1, e2, e3, e4⟩ := hm
  have e5 : (Value.slice B m d) = .slice B' m' d' := by
    unfold msgCells at e1
    injection e1 with _ e1
    injection e1 with _ e1
    injection e1 with _ e1
    injection e1 with e1 _
  injection e5 with h1 h2 h3
  subst h1 h2 h3
  exact ha.set i ⟨_, _, _, rfl, e2, e3, e4⟩
/-- what Whole hands back: a mailbox that is whole, or that it isn't -/
def WhoE (w : World) (b : BoxS) (ok : Bool) (e : Ending) (w' : World) : Prop :=
  if ok = true then ∃ A n c vs, e = .returned (.tuple #[.agg (boxCells b.name b.epoch b.next (.slice A n c)).toArray, .int .i64 0]) ∧ RowO w' w.heap.size 37 4 A n c vs ∧ All2 (MsgA w' A) vs b.msgs ∧ Below w.heap.size w w'
  else e = .returned (.tuple #[.agg #[.string ⟨#[]⟩, .int .u32 0, .int .u32 0, .slice none 0 0], .int .i64 9]) ∧ Below w.heap.size w w'
theorem formed_named {n : Note} (h : formed n = true) (hk : n.kind ≠ 3) : n.name.size ≤ 60 := by
  unfold formed at h
  split at h
  · cases h
  · split at h
    · simp only [Bool.and_eq_true] at h
      exact named_size h.1.1
    · split at h
      · simp only [Bool.and_eq_true] at h
        exact named_size h.1
      · rename_i h1 h2 h3
        simp only [Bool.and_eq_true, decide_eq_true_eq] at h
        exact absurd h.1.1.1 hk
theorem takeAll_nsize : ∀ {ns : List Note} (l : LogS) (a : Nat), (∀ n ∈ ns, formed n = true) → l.name.size ≤ 60 → (takeAll l a ns).name.size ≤ 60
  | [], _, _, _, h => h
  | n :: ns, l, a, hf, h => by
    refine takeAll_nsize (ns := ns) _ _ (fun m hm => hf m (by simp [hm])) ?_
    rw [takeS_name]
    split
    · exact h
    · rename_i hk
      exact formed_named (hf n (by simp)) hk
theorem readS_nsize {ns : List Note} (h : Formed ns) : (readS ns).name.size ≤ 60 := takeAll_nsize _ _ (fun n hn => (h n hn).1) (by decide)
end Go.Proofs.YtlhaempecidohaaGreatDoor
namespace Go.Proofs.YtlhaempecidohaaGreatDoor
open Go.RowKit
set_option maxRecDepth 10000 in
set_option maxHeartbeats 6000000 in
theorem whole_any {w : World} {g m cap : Nat} {F : DiskF} (h : DiskS w g m cap F) (n : Nat) (hn : n < 16) (ns : List Note) (f : FlgS) (hW : Whole ns f) (b : List Nat)
    (hlog : AL.get F (logN n) = some (safeF (logB ns))) (hidx : AL.get F (idxN n) = some (safeF b)) (hflg : AL.get F (flgN n) = some (safeF (flgB f))) (hE : Env w) :
    Calls Tryz.prog 35 #[.pointer (some ⟨g, 0, none⟩), .int .i64 (n : Int)] w (WhoE w (boxOf (readS ns) f) (decide (idxB (ofI (readS ns) (logB ns).length) = b))) := by
  obtain ⟨r1, r2, r3⟩ := names_right n hn
  have hok := readS_ok hW.formed
  obtain ⟨p1, p2, p3, p4, p5, p6⟩ := hW.parts
  obtain ⟨X, hX⟩ : ∃ X, ofI (readS ns) (logB ns).length = X := ⟨_, rfl⟩
  have hXr : rightIdx X = true := by rw [← hX]; exact hW.idx
  have hXw : X.wf := by rw [← hX]; exact ofI_wf _ hok
  have hXn : X.name.size ≤ 1000000 := by rw [← hX]; exact ofI_name _ (by have := readS_nsize hW.formed; omega)
  have hXe : X.epoch = f.epoch := by rw [← hX, hW.ofI, hW.epoch]
  have hXu : X.L.map (·.1) = f.L.map (·.1) := by rw [← hX, hW.ofI, hW.uids]; simp
  have hcl := hW.clean
  have hflen := hW.length
  have hright := hW.right
  have hll : (logB ns).length ≤ 4194304 := by have := total_get hlog; have := h.fits; have := h.most; have e : (safeF (logB ns)).b.length = (logB ns).length := rfl; omega
  obtain ⟨L, hL⟩ : ∃ L, readS ns = L := ⟨_, rfl⟩
  rw [hL] at hok p5 hcl hflen hright hX ⊢
  rw [hX]
  obtain ⟨ws, hws⟩ : ∃ ws, ws = w.alloc (.cells #[.string ⟨#[]⟩, .int .u32 0, .int .u32 0, .slice none 0 0] 49) := ⟨_, rfl⟩
  have hbs : Below w.heap.size w ws := by rw [hws]; exact (Below.refl _ _).alloc (Nat.le_refl _) _
  have hg4 : ws.heap[w.heap.size]? = some (.cells #[.string ⟨#[]⟩, .int .u32 0, .int .u32 0, .slice none 0 0] 49 (0, 0)) := by rw [hws]; exact heap_alloc_new w _
  have hd := h.below hbs
  have hR1 : Calls Tryz.prog 9 #[.pointer (some ⟨g, 0, none⟩), .string (logN n)] ws (GotB ws (logB ns)) := read_yes hd (right_size r1) hlog
  have HR2 : Hid (∀ w', Below ws.heap.size ws w' → Calls Tryz.prog 9 #[.pointer (some ⟨g, 0, none⟩), .string (idxN n)] w' (GotB w' b)) := fun w' hb => read_yes (hd.below hb) (right_size r2) hidx
  have HR3 : Hid (∀ w', Below ws.heap.size ws w' → Calls Tryz.prog 9 #[.pointer (some ⟨g, 0, none⟩), .string (flgN n)] w' (GotB w' (flgB f))) := fun w' hb => read_yes (hd.below hb) (right_size r3) hflg
  have HR1 := Lib.hid hR1
  have HE := Lib.hid (hE.below hbs)
  have HG4 := Lib.hid hg4
  have HBS := Lib.hid hbs
  have HWS := Lib.hid hws
  have HX := Lib.hid hX
  have HL : Hid (readS ns = L) := hL
  have HXR := Lib.hid hXr
  have HXW := Lib.hid hXw
  have HXE := Lib.hid hXe
  have HXU := Lib.hid hXu
  have HXN := Lib.hid hXn
  have HOK := Lib.hid hok
  have HCL := Lib.hid hcl
  have HFL := Lib.hid hflen
  have HRT := Lib.hid hright
  have HFM := Lib.hid hW.formed
  have HFR := Lib.hid hW.flg
  have HFW := Lib.hid hW.fwf
  have HP5 := Lib.hid p5
  have hF1 := fun w => logf_any n hn w
  have hF2 := fun w => idxf_any n hn w
  have hF3 := fun w => flgf_any n hn w
  have HF1 := Lib.hid hF1
  have HF2 := Lib.hid hF2
  have HF3 := Lib.hid hF3
  clear h hW hlog hidx hflg hE r1 r2 r3 p1 p2 p3 p4 p5 p6 hXr hXw hXn hXe hXu hcl hflen hright hX hL hbs hg4 hd hR1 hws hok hF1 hF2 hF3
  go_enter Tryz.func35, Tryz.ntmps35
  go_upto_region 1 with fail
  rw [show World.alloc _ _ = ws from HWS.out.symm]
  go_wp2_with fail
  refine (HF1.out ws).mono ?_
  rintro e w1 ⟨rfl, rfl⟩
  go_wp2_with fail
  refine HR1.out.mono ?_
  rintro e w2 ⟨A2, c2, rfl, hown, hb2⟩
  have hRd := read_any A2 (logB ns).length c2 ns w2 HFM.out hown.read hown.le (by omega) (HE.out.below hb2)
  rw [HL.out, HCL.out] at hRd
  have HRD := Lib.hid hRd
  have HB2 := Lib.hid hb2
  clear hown hb2 hRd HR1
  go_wp2_with fail
  refine HRD.out.mono ?_
  rintro e w3 ⟨A3, n3, c3, vs3, rfl, hro3, hal3, hb3⟩
  have hlr : RowR w3 A3 n3 6 vs3 := hro3.read
  have hla : All2 (LiveR w3) vs3 L.live := hal3.mono LiveA.r
  have hn3 : n3 = L.live.length := by rw [← hal3.length]; exact hro3.len.symm
  obtain ⟨w4, hw4⟩ : ∃ w4, w4 = w3.alloc (.cells (logCells L (.slice A3 n3 c3) ((logB ns).length : Int) true).toArray 87) := ⟨_, rfl⟩
  have hb34 : Below w3.heap.size w3 w4 := by rw [hw4]; exact (Below.refl _ _).alloc (Nat.le_refl _) _
  have hg8 : w4.heap[w3.heap.size]? = some (.cells (logCells L (.slice A3 n3 c3) ((logB ns).length : Int) true).toArray 87 (0, 0)) := by rw [hw4]; exact heap_alloc_new w3 _
  have hbw4 : Below w1.heap.size w1 w4 := HB2.out.trans ((hb3.trans (hb34.mono hb3.size)).mono HB2.out.size)
  have hOf := of_any L A3 n3 c3 vs3 (logB ns).length true w4 (hlr.below hb34) (hla.mono (LiveR.below hb34)) (by have := HP5.out; omega) HCL.out.symm
  unfold logCells at hw4 hg8 hOf
  have HOF := Lib.hid hOf
  have HG8 := Lib.hid hg8
  have HLR := Lib.hid (hlr.below hb34)
  have HLA := Lib.hid (hla.mono (LiveR.below hb34))
  have HBW4 := Lib.hid hbw4
  have HN3 := Lib.hid hn3
  have HW4 := Lib.hid hw4
  clear hro3 hal3 hb3 hlr hla hn3 hw4 hb34 hg8 hbw4 hOf HRD
  unfold logCells
  have d0 := cell_of_row w4 _ 0 _ _ _ HG8.out
  have d1 := cell_of_row w4 _ 1 _ _ _ HG8.out
  have d2 := cell_of_row w4 _ 2 _ _ _ HG8.out
  have d3 := cell_of_row w4 _ 3 _ _ _ HG8.out
  have d4 := cell_of_row w4 _ 4 _ _ _ HG8.out
  have d5 := cell_of_row w4 _ 5 _ _ _ HG8.out
  go_upto_region 7 with fail
  rw [← HW4.out]
  go_wp2_with fail
  refine HOF.out.mono ?_
  rintro e w5 hE5
  unfold OfE at hE5
  rw [HX.out] at hE5
  obtain ⟨A5, c5, A6, c6, m5, rfl, hr5, -, hb5⟩ := hE5
  have hm5 : X.L.length = m5 := by have := hr5.len; rwa [List.length_map] at this
  obtain ⟨w6, hw6⟩ : ∃ w6, w6 = (w5.alloc (.cells (idxCells X (.slice A5 m5 c5)).toArray 149)).alloc (.cells (flgCells (ofF L) (.slice A6 m5 c6)).toArray 151) := ⟨_, rfl⟩
  have hb56 : Below w5.heap.size w5 w6 := by rw [hw6]; exact ((Below.refl _ _).alloc (Nat.le_refl _) _).alloc (by simp) _
  have hg9 : w6.heap[w5.heap.size]? = some (.cells (idxCells X (.slice A5 m5 c5)).toArray 149 (0, 0)) := by
    rw [hw6, Below.heap_alloc _ _ _ (by simp)]; exact heap_alloc_new w5 _
  have hbw6 : Below w1.heap.size w1 w6 := HBW4.out.trans ((hb5.trans (hb56.mono hb5.size)).mono HBW4.out.size)
  have hb46 := hb5.trans (hb56.mono hb5.size)
  have hxl : X.L.length ≤ 10000000 := by have := (idx_all HXR.out).2.2.2; omega
  have hPI := putIdx_any X A5 m5 c5 w6 (hr5.below hb56).read (by omega) HXN.out HXW.out (HE.out.below hbw6)
  unfold PutI at hPI
  simp only [HXR.out, if_true] at hPI
  have HG8' := Lib.hid ((hb46.block _ (Array.getElem?_eq_some_iff.1 HG8.out).1).trans HG8.out)
  have HLR' := Lib.hid (HLR.out.below hb46)
  have HLA' := Lib.hid (HLA.out.mono (LiveR.below hb46))
  have HR5 := Lib.hid (hr5.below hb56)
  unfold idxCells flgCells at hw6
  unfold idxCells at hPI
  have HPI := Lib.hid hPI
  have HG9 := Lib.hid hg9
  have HBW6 := Lib.hid hbw6
  have HM5 := Lib.hid hm5
  have HXL := Lib.hid hxl
  have HW6 := Lib.hid hw6
  have i0 : w6.cell? ⟨w5.heap.size, 0, none⟩ = some (.string X.name) := cell_of_row w6 _ 0 _ _ _ hg9
  have i1 : w6.cell? ⟨w5.heap.size, 1, none⟩ = some (.int .u32 (X.epoch : Int)) := cell_of_row w6 _ 1 _ _ _ hg9
  have i2 : w6.cell? ⟨w5.heap.size, 2, none⟩ = some (.int .u32 (X.next : Int)) := cell_of_row w6 _ 2 _ _ _ hg9
  have i3 : w6.cell? ⟨w5.heap.size, 3, none⟩ = some (.int .i64 (X.upto : Int)) := cell_of_row w6 _ 3 _ _ _ hg9
  have i4 : w6.cell? ⟨w5.heap.size, 4, none⟩ = some (.slice A5 m5 c5) := cell_of_row w6 _ 4 _ _ _ hg9
  clear hm5 hr5 hb5 hw6 hb56 hg9 hbw6 hb46 hxl hPI HG8 HLR HLA HOF d0 d1 d2 d3 d4 d5
  unfold idxCells flgCells
  go_upto_region 8 with fail
  rw [← HW6.out]
  go_wp2_with fail
  refine HPI.out.mono ?_
  rintro e w7 ⟨A7, n7, c7, rfl, hown7, hb7⟩
  have hbw7 := HBW6.out.trans (hb7.mono HBW6.out.size)
  have HG8 := Lib.hid ((hb7.block _ (Array.getElem?_eq_some_iff.1 HG8'.out).1).trans HG8'.out)
  have HG9' := Lib.hid ((hb7.block _ (Array.getElem?_eq_some_iff.1 HG9.out).1).trans HG9.out)
  have HLR := Lib.hid (HLR'.out.below hb7)
  have HLA := Lib.hid (HLA'.out.mono (LiveR.below hb7))
  have HR7 := Lib.hid (HR5.out.below hb7)
  have HPG := Lib.hid hown7.read
  have HBW7 := Lib.hid hbw7
  clear hown7 hb7 hbw7 HG8' HG9 HLR' HLA' HR5 HPI i0 i1 i2 i3 i4
  have d4 := cell_of_row w7 _ 4 _ _ _ HG8.out
  have d5 := cell_of_row w7 _ 5 _ _ _ HG8.out
  go_wp2_with fail
  refine (HF2.out w7).mono ?_
  rintro e w7' ⟨rfl, rfl⟩
  go_wp2_with fail
  refine (HR2.out w7' HBW7.out).mono ?_
  rintro e w8 ⟨A8, c8, rfl, hown8, hb8⟩
  have hbw8 := HBW7.out.trans (hb8.mono HBW7.out.size)
  have HPP := Lib.hid hown8.read
  have HB8 := Lib.hid hb8
  have HBW8 := Lib.hid hbw8
  clear hown8 hb8 hbw8 d4 d5
  go_wp2_with fail
  refine (HF3.out w8).mono ?_
  rintro e w8' ⟨rfl, rfl⟩
  go_wp2_with fail
  refine (HR3.out w8' HBW8.out).mono ?_
  rintro e w9 ⟨A9, c9, rfl, hown9, hb9⟩
  have hbw9 := HBW8.out.trans (hb9.mono HBW8.out.size)
  have HGF := Lib.hid (getFlg_any f A9 (flgB f).length c9 w9 hown9.read hown9.le HFR.out HFW.out)
  have HB9 := Lib.hid (HB8.out.trans (hb9.mono HB8.out.size))
  have HBW9 := Lib.hid hbw9
  have HPP' := Lib.hid (HPP.out.below hb9)
  clear hown9 hb9 hbw9 HPP HB8
  go_wp2_with fail
  refine HGF.out.mono ?_
  rintro e w10 ⟨A10, k10, c10, rfl, hr10, hb10⟩
  obtain ⟨w11, hw11⟩ : ∃ w11, w11 = w10.alloc (.cells (flgCells f (.slice A10 k10 c10)).toArray 151) := ⟨_, rfl⟩
  have hb1011 : Below w10.heap.size w10 w11 := by rw [hw11]; exact (Below.refl _ _).alloc (Nat.le_refl _) _
  have hg16 : w11.heap[w10.heap.size]? = some (.cells (flgCells f (.slice A10 k10 c10)).toArray 151 (0, 0)) := by rw [hw11]; exact heap_alloc_new w10 _
  have hb911 := hb10.trans (hb1011.mono hb10.size)
  have hb711 := HB9.out.trans (hb911.mono HB9.out.size)
  have hbw11 := HBW9.out.trans (hb911.mono HBW9.out.size)
  have hk10 : f.L.length = k10 := by have := hr10.len; rwa [List.length_map] at this
  have hkm : m5 = k10 := by
    have h1 := congrArg List.length HXU.out
    rw [List.length_map, List.length_map, HM5.out, hk10] at h1
    exact h1
  subst hkm
  have HG8' := Lib.hid ((hb711.block _ (Array.getElem?_eq_some_iff.1 HG8.out).1).trans HG8.out)
  have HG9 := Lib.hid ((hb711.block _ (Array.getElem?_eq_some_iff.1 HG9'.out).1).trans HG9'.out)
  have HLR' := Lib.hid (HLR.out.below hb711)
  have HLA' := Lib.hid (HLA.out.mono (LiveR.below hb711))
  have HR11 := Lib.hid (HR7.out.below hb711)
  have HFR11 := Lib.hid (hr10.below hb1011)
  have HG16 := Lib.hid hg16
  have HQ := Lib.hid (equal_any A7 A8 n7 c7 b.length c8 _ _ w11 (HPG.out.below hb711) (HPP'.out.below hb911))
  have HBW11 := Lib.hid hbw11
  have HK10 := Lib.hid hk10
  unfold flgCells at hw11
  have HW11 := Lib.hid hw11
  clear hr10 hb10 hw11 hb1011 hg16 hb911 hb711 hbw11 hk10 HG8 HG9' HLR HLA HR7 HPG HPP' HGF
  unfold flgCells
  have i0 : w11.cell? ⟨w5.heap.size, 0, none⟩ = some (.string X.name) := cell_of_row w11 _ 0 _ _ _ HG9.out
  have i1 : w11.cell? ⟨w5.heap.size, 1, none⟩ = some (.int .u32 (X.epoch : Int)) := cell_of_row w11 _ 1 _ _ _ HG9.out
  have i2 : w11.cell? ⟨w5.heap.size, 2, none⟩ = some (.int .u32 (X.next : Int)) := cell_of_row w11 _ 2 _ _ _ HG9.out
  have i3 : w11.cell? ⟨w5.heap.size, 3, none⟩ = some (.int .i64 (X.upto : Int)) := cell_of_row w11 _ 3 _ _ _ HG9.out
  have i4 : w11.cell? ⟨w5.heap.size, 4, none⟩ = some (.slice A5 m5 c5) := cell_of_row w11 _ 4 _ _ _ HG9.out
  have f0 : w11.cell? ⟨w10.heap.size, 0, none⟩ = some (.int .u32 (f.epoch : Int)) := cell_of_row w11 _ 0 _ _ _ HG16.out
  have f1 : w11.cell? ⟨w10.heap.size, 1, none⟩ = some (.slice A10 m5 c10) := cell_of_row w11 _ 1 _ _ _ HG16.out
  go_upto_region 14 with fail
  rw [← HW11.out]
  obtain ⟨eqb, heqb⟩ : ∃ q, decide (idxB X = b) = q := ⟨_, rfl⟩
  rw [heqb] at HQ
  have HEQB := Lib.hid heqb
  clear heqb
  go_wp2_with fail
  refine HQ.out.mono ?_
  rintro e w11' ⟨rfl, rfl⟩
  have hres := (HBW11.out.block _ (Array.getElem?_eq_some_iff.1 HG4.out).1).trans HG4.out
  have HRES := Lib.hid hres
  have HBWW : Hid (Below w.heap.size w w11') := HBS.out.trans (HBW11.out.mono HBS.out.size)
  have hwl : w.heap.size < w1.heap.size := (Array.getElem?_eq_some_iff.1 HG4.out).1
  clear hres
  cases eqb
  · have r0 := cell_of_row w11' _ 0 _ _ _ HRES.out
    have r1 := cell_of_row w11' _ 1 _ _ _ HRES.out
    have r2 := cell_of_row w11' _ 2 _ _ _ HRES.out
    have r3 := cell_of_row w11' _ 3 _ _ _ HRES.out
    have rf : ∀ j, w11'.frozen? ⟨w.heap.size, j, none⟩ = false := fun j => by simp [World.frozen?, HRES.out]
    go_wp2_with fail
    obtain ⟨hh, ho7⟩ := res4 HRES.out (.string ⟨#[]⟩) (.int .u32 0) (.int .u32 0) (.slice none 0 0)
    have hbw7 := HBWW.out.trans (ho7.below HBWW.out.size (fun b hb e => by omega))
    try simp only [Exit.inBlock, Exit.then]
    refine bodyPost_ret (results_cell_tmp_row rfl _ _ w.heap.size 49 _ (0, 0) rfl hh row49 size49) rfl ?_
    unfold WhoE
    rw [HEQB.out, if_neg (by decide)]
    exact ⟨rfl, hbw7⟩
  · have hU := uids_any X f A5 A10 m5 c5 c10 w11' HR11.out.read HFR11.out.read (by have := HXL.out; have := HM5.out; omega) HXE.out HXU.out
    unfold idxCells flgCells at hU
    have HUI := Lib.hid hU
    clear hU
    go_wp2_with fail
    refine HUI.out.mono ?_
    rintro e w12 ⟨rfl, hb12⟩
    have HBW12 := Lib.hid (HBW11.out.trans (hb12.mono HBW11.out.size))
    have HG8 := Lib.hid ((hb12.block _ (Array.getElem?_eq_some_iff.1 HG8'.out).1).trans HG8'.out)
    have HG16' := Lib.hid ((hb12.block _ (Array.getElem?_eq_some_iff.1 HG16.out).1).trans HG16.out)
    have HRES' := Lib.hid ((hb12.block _ (Array.getElem?_eq_some_iff.1 HRES.out).1).trans HRES.out)
    have HFR12 := Lib.hid (HFR11.out.below hb12)
    have hll12 := HLR'.out.below hb12
    have hoct : ∀ x ∈ L.live, x.msg.oct.length ≤ 10000000 := fun x hx => by
      have h1 := (HOK.out.live x hx).1
      unfold rightMsg at h1
      simp only [Bool.and_eq_true, decide_eq_true_eq] at h1
      omega
    have hlen3 : n3 = L.live.length := HN3.out
    have hBX := box_any L A3 n3 c3 vs3 ((logB ns).length : Int) w12 hll12 (HLA'.out.mono (LiveR.below hb12)) (by have := HP5.out; omega) hoct
    unfold logCells at hBX
    have HBX := Lib.hid hBX
    clear hb12 hll12 hoct hlen3 hBX HG8' HG16 HRES HFR11 i0 i1 i2 i3 i4 f0 f1 HLR' HLA' HUI HR11 HG9
    have d0 := cell_of_row w12 _ 0 _ _ _ HG8.out
    have d1 := cell_of_row w12 _ 1 _ _ _ HG8.out
    have d2 := cell_of_row w12 _ 2 _ _ _ HG8.out
    have d3 := cell_of_row w12 _ 3 _ _ _ HG8.out
    have d4 := cell_of_row w12 _ 4 _ _ _ HG8.out
    have d5 := cell_of_row w12 _ 5 _ _ _ HG8.out
    go_wp2_with fail
    refine HBX.out.mono ?_
    rintro e w13 ⟨A13, n13, c13, vs13, rfl, hr13, ha13, hb13⟩
    have hn13 : n13 = m5 := by
      have h1 := ha13.length
      rw [hr13.len, List.length_map, ← HFL.out, HK10.out] at h1
      exact h1
    subst hn13
    obtain ⟨w14, hw14⟩ : ∃ w14, w14 = w13.alloc (.cells (boxCells L.name L.epoch L.next (.slice A13 n13 c13)).toArray 49) := ⟨_, rfl⟩
    have hb14 : Below w13.heap.size w13 w14 := by rw [hw14]; exact (Below.refl _ _).alloc (Nat.le_refl _) _
    have hM14 : BoxN w14 w12.heap.size w13.heap.size A13 n13 c13 vs13 L.name L.epoch L.next (L.live.map (·.msg)) := by
      refine ⟨by rw [hw14]; exact heap_alloc_new _ _, hr13.below hb14, ha13.mono (MsgA.below hb14), fun e => by have := (hr13.lt _ e).2; omega⟩
    have hb1214 := hb13.trans (hb14.mono hb13.size)
    have HM14 := Lib.hid hM14
    have HG16 := Lib.hid ((hb1214.block _ (Array.getElem?_eq_some_iff.1 HG16'.out).1).trans HG16'.out)
    have HRES := Lib.hid ((hb1214.block _ (Array.getElem?_eq_some_iff.1 HRES'.out).1).trans HRES'.out)
    have HFR14 := Lib.hid (HFR12.out.below hb1214)
    have HBW14 := Lib.hid (HBW12.out.trans (hb1214.mono HBW12.out.size))
    unfold boxCells at hw14
    have HW14 := Lib.hid hw14
    have hn500 : n13 ≤ 500 := by have h1 := HP5.out; have h2 := HFL.out; have h3 := HK10.out; omega
    have hlv : L.live.length = n13 := by have h2 := HFL.out; have h3 := HK10.out; omega
    have HLV : Hid (L.live.length = n13) := hlv
    have k3 : w14.cell? ⟨w13.heap.size, 3, none⟩ = some (.slice A13 n13 c13) := cell_of_row w14 _ 3 _ _ _ hM14.blk
    clear hr13 ha13 hb13 hw14 hb14 hM14 hb1214 HG8 HG16' HRES' HFR12 hlv HBX d0 d1 d2 d3 d4 d5
    unfold boxCells
    go_upto_region 17 with fail
    rw [← HW14.out]
    go_wp2_with fail
    clear k3
    go_loopw [99] (fun v99 wr => ∃ (i : Nat) (vs' : List (List Value)), i ≤ n13 ∧ v99 = .int .i64 (i : Int) ∧ BoxN wr w12.heap.size w13.heap.size A13 n13 c13 vs' L.name L.epoch L.next ((withFlags L.live f.L).take i ++ (L.live.map (·.msg)).drop i) ∧ wr.heap[w10.heap.size]? = some (.cells #[.int .u32 (f.epoch : Int), .slice A10 n13 c10] 151 (0, 0)) ∧
      wr.heap[w.heap.size]? = some (.cells #[.string ⟨#[]⟩, .int .u32 0, .int .u32 0, .slice none 0 0] 49 (0, 0)) ∧ RowO wr w9.heap.size 160 2 A10 n13 c10 (f.L.map markV) ∧ Below w1.heap.size w1 wr) (fun v99 _ => n13 - (intOf v99).toNat)
    case atStart => exact ⟨0, vs13, Nat.zero_le _, rfl, by have := HM14.out; simpa using this, HG16.out, HRES.out, HFR14.out, HBW14.out⟩
    case round =>
      obtain ⟨i, vs', hi, rfl, hm, hg16, hres, hfr, hb⟩ := hrel
      have HM := Lib.hid hm
      have HG := Lib.hid hg16
      have HRS := Lib.hid hres
      have HFRR := Lib.hid hfr
      have HB := Lib.hid hb
      clear hm hg16 hres hfr hb
      by_cases hlt : i < n13
      · obtain ⟨x, hx⟩ : ∃ x, L.live[i]? = some x := ⟨_, List.getElem?_eq_getElem (by rw [HLV.out]; exact hlt)⟩
        obtain ⟨gF, y, hAF, hy, hcF⟩ := HFRR.out.read.map hlt
        subst hAF
        have hP := withFlags_at hx hy
        have hQ : (L.live.map (·.msg))[i]? = some x.msg := by rw [List.getElem?_map, hx]; rfl
        obtain ⟨s1, s2⟩ := mixw (withFlags L.live f.L) (L.live.map (·.msg)) (by rw [withFlags_len HFL.out, List.length_map]) i (by rw [List.length_map, HLV.out]; exact hlt) _ _ hP hQ
        obtain ⟨gB, v, hAB, hv, hvl, hcB⟩ := HM.out.row.read.at_ hlt
        subst hAB
        obtain ⟨x', hx', B, m', d', rfl, -⟩ := HM.out.all.left hv
        rw [s2] at hx'
        injection hx' with hx'
        subst hx'
        have q1 : wr.cell? ⟨gB, i * 4 + 2, none⟩ = some (.int .i64 x.msg.flags) := hcB 2 _ rfl
        have q2 : wr.cell? ⟨gF, i * 2 + 1, none⟩ = some (.int .i64 y.2) := hcF 1 _ rfl
        have k3 : wr.cell? ⟨w13.heap.size, 3, none⟩ = some (.slice (some ⟨gB, 0, none⟩) n13 c13) := cell_of_row wr _ 3 _ _ _ HM.out.blk
        have l1 : wr.cell? ⟨w10.heap.size, 1, none⟩ = some (.slice (some ⟨gF, 0, none⟩) n13 c10) := cell_of_row wr _ 1 _ _ _ HG.out
        have qf : ∀ j, wr.frozen? ⟨gB, j, none⟩ = false := HM.out.row.frozen
        have HS1 := Lib.hid s1
        have HS2 := Lib.hid s2
        have HV := Lib.hid hv
        clear hx hy hcF hP hQ s1 s2 hv hvl hcB
        go_wp2_with fail
        go_region
        (try go_wp2_with fail)
        obtain ⟨p1, p2⟩ := boxn_flag HM.out HV.out HS2.out y.2
        rw [HS1.out] at p1
        have hgl := HM.out.row.lt gB rfl
        have n16 : ¬ w10.heap.size = gB := fun e => HM.out.row.neb HG.out (by decide) (by rw [e]; rfl)
        have n4 : ¬ w.heap.size = gB := fun e => HM.out.row.neb HRS.out (by decide) (by rw [e]; rfl)
        have hsz := HBW12.out.size
        refine ⟨⟨i + 1, _, hlt, by first | rfl | (congr 1), p1.drew, p2.heap HG.out n16, p2.heap HRS.out n4, (HFRR.out.only p2 (fun q hq e => HM.out.row.apart HFRR.out (by decide) q hq (by rw [e]; rfl))).only (Only.refl (fun _ => False) _).drew (fun _ _ h => h), ?_⟩, by simp [intOf]; omega⟩
        exact (HB.out.trans (p2.below HB.out.size (fun b hb e => by omega))).drew
      · obtain rfl : i = n13 := by omega
        have hm := HM.out
        rw [List.take_of_length_le (by rw [withFlags_len HFL.out, HLV.out]; exact Nat.le_refl _), List.drop_eq_nil_of_le (by rw [List.length_map, HLV.out]; exact Nat.le_refl _), List.append_nil] at hm
        have hRY := mright_yes L.name L.epoch L.next A13 i c13 vs' (withFlags L.live f.L) wr HRT.out hm.row.read (hm.all.mono MsgA.r) (HE.out.below HB.out)
        unfold boxCells at hRY
        have HRY := Lib.hid hRY
        have HM' := Lib.hid hm
        have k0 : wr.cell? ⟨w13.heap.size, 0, none⟩ = some (.string L.name) := cell_of_row wr _ 0 _ _ _ hm.blk
        have k1 : wr.cell? ⟨w13.heap.size, 1, none⟩ = some (.int .u32 (L.epoch : Int)) := cell_of_row wr _ 1 _ _ _ hm.blk
        have k2 : wr.cell? ⟨w13.heap.size, 2, none⟩ = some (.int .u32 (L.next : Int)) := cell_of_row wr _ 2 _ _ _ hm.blk
        have k3 : wr.cell? ⟨w13.heap.size, 3, none⟩ = some (.slice A13 i c13) := cell_of_row wr _ 3 _ _ _ hm.blk
        clear hm hRY HM
        go_wp2_with fail
        refine HRY.out.mono ?_
        rintro e w15 ⟨rfl, hb15⟩
        have HM15 := Lib.hid (HM'.out.below hb15)
        have HRS15 := Lib.hid ((hb15.block _ (Array.getElem?_eq_some_iff.1 HRS.out).1).trans HRS.out)
        have HBW15 : Hid (Below w.heap.size w w15) := HBS.out.trans ((HB.out.trans (hb15.mono HB.out.size)).mono HBS.out.size)
        have k0 := cell_later hb15 k0
        have k1 := cell_later hb15 k1
        have k2 := cell_later hb15 k2
        have k3 := cell_later hb15 k3
        clear hb15
        have r0 := cell_of_row w15 _ 0 _ _ _ HRS15.out
        have r1 := cell_of_row w15 _ 1 _ _ _ HRS15.out
        have r2 := cell_of_row w15 _ 2 _ _ _ HRS15.out
        have r3 := cell_of_row w15 _ 3 _ _ _ HRS15.out
        have rf : ∀ j, w15.frozen? ⟨w.heap.size, j, none⟩ = false := fun j => by simp [World.frozen?, HRS15.out]
        go_wp2_with fail
        obtain ⟨hh, ho7⟩ := res4 HRS15.out (.string L.name) (.int .u32 (L.epoch : Int)) (.int .u32 (L.next : Int)) (.slice A13 i c13)
        generalize hw7 : (((w15.setCell ⟨w.heap.size, 0, none⟩ (.string L.name)).setCell ⟨w.heap.size, 1, none⟩ (.int .u32 (L.epoch : Int))).setCell ⟨w.heap.size, 2, none⟩ (.int .u32 (L.next : Int))).setCell ⟨w.heap.size, 3, none⟩ (.slice A13 i c13) = w17 at hh ho7 ⊢
        have hnb : NoB w15 w.heap.size := NoB.cells HRS15.out (fun j x e => by
          rw [List.getElem?_toArray] at e
          rcases j with _ | _ | _ | _ | j <;> simp at e)
        have hrl := HM15.out.row.lt
        have hsz := HBW12.out.size
        have hrow : RowO w17 w.heap.size 37 4 A13 i c13 vs' := (HM15.out.row.only ho7 (fun q hq e => by have := (hrl q hq).1; omega)).more (fun q hq => by have := (hrl q hq).1; omega)
        have hall : All2 (MsgA w17 A13) vs' (withFlags L.live f.L) := HM15.out.all.mono (fun v x ⟨B, m, d, h1, h2, h3, h4⟩ => ⟨B, m, d, h1, h2.keep ho7 (fun b hb => hb ▸ hnb), h3, h4⟩)
        have hbw7 := HBW15.out.trans (ho7.below HBW15.out.size (fun b hb e => by omega))
        have HH := Lib.hid hh
        have HRW := Lib.hid hrow
        have HAL := Lib.hid hall
        have HBW17 := Lib.hid hbw7
        clear hw7 ho7 hh hnb hrl hrow hall hbw7
        try simp only [Exit.inBlock, Exit.then]
        refine bodyPost_ret (results_cell_tmp_row rfl _ _ w.heap.size 49 _ (0, 0) rfl HH.out row49 size49) rfl ?_
        unfold WhoE
        rw [HEQB.out, if_pos rfl]
        exact ⟨A13, i, c13, vs', rfl, HRW.out, HAL.out, HBW17.out⟩
end Go.Proofs.YtlhaempecidohaaGreatDoor
namespace Go.Proofs.YtlhaempecidohaaGreatDoor
open Go.RowKit
/-- what a mailbox holds -/
def BoxSt.box (b : BoxSt) : BoxS := boxOf (readS b.ns) b.f
/-- what Load hands back -/
def LoadE (w : World) (o : Option BoxS) (e : Ending) (w' : World) : Prop :=
  match o with
  | none => e = .returned (.tuple #[.agg #[.string ⟨#[]⟩, .int .u32 0, .int .u32 0, .slice none 0 0], .int .i64 7]) ∧ Below w.heap.size w w'
  | some b => ∃ A n c vs, e = .returned (.tuple #[.agg (boxCells b.name b.epoch b.next (.slice A n c)).toArray, .int .i64 0]) ∧ RowO w' w.heap.size 37 4 A n c vs ∧ All2 (MsgA w' A) vs b.msgs ∧ Below w.heap.size w w'
theorem StoreS.whole {w : World} {gs g m mm cap : Nat} {F : DiskF} {bs : Boxes} (h : StoreS w gs g m mm cap F bs) {n : Nat} {b : BoxSt} (hb : (n, b) ∈ bs) (hE : Env w) :
    Calls Tryz.prog 35 #[.pointer (some ⟨g, 0, none⟩), .int .i64 (n : Int)] w (WhoE w b.box true) := by
  have hG := h.rest.good
  have h1 := whole_any h.disk n (hG.few _ hb) b.ns b.f (hG.whole _ hb) (idxB b.idx) (hG.log _ hb) (hG.idx _ hb (.inr rfl)) (hG.flg _ hb) hE
  have e : decide (idxB (ofI (readS b.ns) (logB b.ns).length) = idxB b.idx) = true := decide_eq_true rfl
  rw [e] at h1
  exact h1
set_option maxRecDepth 8000 in
set_option maxHeartbeats 2000000 in
theorem load_any {w : World} {gs g m mm cap : Nat} {F : DiskF} {bs : Boxes} (h : StoreS w gs g m mm cap F bs) (s : ByteArray) (hs : s.size ≤ 1000000) (hE : Env w) (o : Option BoxS)
    (ho : ∀ n, numOf bs s = some n → ∃ b, (n, b) ∈ bs ∧ o = some b.box) (ho' : numOf bs s = none → o = none) :
    Calls Tryz.prog 67 #[.pointer (some ⟨gs, 0, none⟩), .string s] w (LoadE w o) := by
  obtain ⟨ws, hws⟩ : ∃ ws, ws = w.alloc (.cells #[.string ⟨#[]⟩, .int .u32 0, .int .u32 0, .slice none 0 0] 49) := ⟨_, rfl⟩
  have hbs : Below w.heap.size w ws := by rw [hws]; exact (Below.refl _ _).alloc (Nat.le_refl _) _
  have hg4 : ws.heap[w.heap.size]? = some (.cells #[.string ⟨#[]⟩, .int .u32 0, .int .u32 0, .slice none 0 0] 49 (0, 0)) := by rw [hws]; exact heap_alloc_new w _
  have hS := h.below hbs
  have c0 := hS.c0
  have HNB := Lib.hid (number_any hS s hs)
  have HLO := Lib.hid (lost_no hS.disk)
  have HG4 := Lib.hid hg4
  have HBS := Lib.hid hbs
  have HWS := Lib.hid hws
  cases hn : numOf bs s with
  | none =>
    have hon := ho' hn
    subst hon
    rw [hn] at HNB
    have r0 := cell_of_row ws _ 0 _ _ _ hg4
    have r1 := cell_of_row ws _ 1 _ _ _ hg4
    have r2 := cell_of_row ws _ 2 _ _ _ hg4
    have r3 := cell_of_row ws _ 3 _ _ _ hg4
    have rf : ∀ j, ws.frozen? ⟨w.heap.size, j, none⟩ = false := fun j => by simp [World.frozen?, HG4.out]
    unfold numI at HNB
    clear h hbs hg4 hS hws hs hE ho ho' hn
    go_enter Tryz.func67, Tryz.ntmps67
    go_upto_region 1 with fail
    rw [show World.alloc _ _ = ws from HWS.out.symm]
    go_wp2_with fail
    refine HNB.out.mono ?_
    rintro e w1 ⟨rfl, rfl⟩
    go_wp2_with fail
    obtain ⟨hh, ho7⟩ := res4 HG4.out (.string ⟨#[]⟩) (.int .u32 0) (.int .u32 0) (.slice none 0 0)
    have hbw7 := HBS.out.trans (ho7.below HBS.out.size (fun b hb e => by omega))
    try simp only [Exit.inBlock, Exit.then]
    refine bodyPost_ret (results_cell_tmp_row rfl _ _ w.heap.size 49 _ (0, 0) rfl hh row49 size49) rfl ?_
    exact ⟨rfl, hbw7⟩
  | some n =>
    obtain ⟨b, hb, hob⟩ := ho n hn
    subst hob
    rw [hn] at HNB
    have hWh := hS.whole hb (hE.below hbs)
    unfold WhoE at hWh
    simp only [if_true] at hWh
    unfold numI at HNB
    have hn0 : ¬ ((n : Int) < 0) := by omega
    have HWH := Lib.hid hWh
    clear h hbs hg4 hS hws hs hE ho ho' hn hWh hb
    generalize b.box = bx at HWH ⊢
    go_enter Tryz.func67, Tryz.ntmps67
    go_upto_region 1 with fail
    rw [show World.alloc _ _ = ws from HWS.out.symm]
    go_wp2_with fail
    refine HNB.out.mono ?_
    rintro e w1 ⟨rfl, rfl⟩
    go_wp2_with fail
    refine HLO.out.mono ?_
    rintro e w2 ⟨rfl, rfl⟩
    go_wp2_with fail
    refine HWH.out.mono ?_
    rintro e w3 ⟨A, k, c, vs, rfl, hro, hal, hb3⟩
    obtain ⟨w4, hw4⟩ : ∃ w4, w4 = w3.alloc (.cells (boxCells bx.name bx.epoch bx.next (.slice A k c)).toArray 49) := ⟨_, rfl⟩
    have hb4 : Below w3.heap.size w3 w4 := by rw [hw4]; exact (Below.refl _ _).alloc (Nat.le_refl _) _
    have hg7 : w4.heap[w3.heap.size]? = some (.cells (boxCells bx.name bx.epoch bx.next (.slice A k c)).toArray 49 (0, 0)) := by rw [hw4]; exact heap_alloc_new _ _
    have hb34 := hb3.trans (hb4.mono hb3.size)
    have hres := (hb34.block _ (Array.getElem?_eq_some_iff.1 HG4.out).1).trans HG4.out
    have HRO := Lib.hid (hro.below hb4)
    have HAL := Lib.hid (hal.mono (MsgA.below hb4))
    have HRES := Lib.hid hres
    have HB4 := Lib.hid (HBS.out.trans (hb34.mono HBS.out.size))
    unfold boxCells at hw4
    have HW4 := Lib.hid hw4
    have hwl : w.heap.size < w1.heap.size := (Array.getElem?_eq_some_iff.1 HG4.out).1
    have k0 : w4.cell? ⟨w3.heap.size, 0, none⟩ = some (.string bx.name) := cell_of_row w4 _ 0 _ _ _ hg7
    have k1 : w4.cell? ⟨w3.heap.size, 1, none⟩ = some (.int .u32 (bx.epoch : Int)) := cell_of_row w4 _ 1 _ _ _ hg7
    have k2 : w4.cell? ⟨w3.heap.size, 2, none⟩ = some (.int .u32 (bx.next : Int)) := cell_of_row w4 _ 2 _ _ _ hg7
    have k3 : w4.cell? ⟨w3.heap.size, 3, none⟩ = some (.slice A k c) := cell_of_row w4 _ 3 _ _ _ hg7
    have r0 := cell_of_row w4 _ 0 _ _ _ hres
    have r1 := cell_of_row w4 _ 1 _ _ _ hres
    have r2 := cell_of_row w4 _ 2 _ _ _ hres
    have r3 := cell_of_row w4 _ 3 _ _ _ hres
    have rf : ∀ j, w4.frozen? ⟨w.heap.size, j, none⟩ = false := fun j => by simp [World.frozen?, HRES.out]
    clear hro hal hb3 hw4 hb4 hg7 hb34 hres c0
    unfold boxCells
    go_upto_region 9 with fail
    rw [← HW4.out]
    go_wp2_with fail
    obtain ⟨hh, ho7⟩ := res4 HRES.out (.string bx.name) (.int .u32 (bx.epoch : Int)) (.int .u32 (bx.next : Int)) (.slice A k c)
    generalize hw7 : (((w4.setCell ⟨w.heap.size, 0, none⟩ (.string bx.name)).setCell ⟨w.heap.size, 1, none⟩ (.int .u32 (bx.epoch : Int))).setCell ⟨w.heap.size, 2, none⟩ (.int .u32 (bx.next : Int))).setCell ⟨w.heap.size, 3, none⟩ (.slice A k c) = w7 at hh ho7 ⊢
    have hnb : NoB w4 w.heap.size := NoB.cells HRES.out (fun j x e => by
      rw [List.getElem?_toArray] at e
      rcases j with _ | _ | _ | _ | j <;> simp at e)
    have hrl := HRO.out.lt
    have hrow := (HRO.out.only ho7 (fun q hq e => by have := (hrl q hq).1; omega)).more (B := w.heap.size) (fun q hq => by have := (hrl q hq).1; omega)
    have hall : All2 (MsgA w7 A) vs bx.msgs := HAL.out.mono (fun v x ⟨B, m, d, h1, h2, h3, h4⟩ => ⟨B, m, d, h1, h2.keep ho7 (fun b hb => hb ▸ hnb), h3, h4⟩)
    have hbw7 := HB4.out.trans (ho7.below HB4.out.size (fun b hb e => by omega))
    have HH := Lib.hid hh
    have HRW := Lib.hid hrow
    have HA7 := Lib.hid hall
    have HBW7 := Lib.hid hbw7
    clear hw7 ho7 hh hnb hrl hrow hall hbw7
    try simp only [Exit.inBlock, Exit.then]
    refine bodyPost_ret (results_cell_tmp_row rfl _ _ w.heap.size 49 _ (0, 0) rfl HH.out row49 size49) rfl ?_
    exact ⟨A, k, c, vs, rfl, HRW.out, HA7.out, HBW7.out⟩
end Go.Proofs.YtlhaempecidohaaGreatDoor
namespace Go.Proofs.YtlhaempecidohaaGreatDoor
open Go.RowKit
theorem PgsE.more {w w1 w' : World} {L : LogS} {t : Nat} {mk : List (Nat × Int)} {e : Ending} (hb : Below w.heap.size w w1) (h : PgsE w1 L t mk e w') : PgsE w L t mk e w' := by
  unfold PgsE at h ⊢
  split at h
  · rename_i hp
    obtain ⟨A, n, c, A', n', c', h1, h2, h3, h4⟩ := h
    rw [if_pos hp]
    exact ⟨A, n, c, A', n', c', h1, h2.more (fun q hq => Nat.le_trans hb.size (h2.lt q hq).1), h3.more (fun q hq => Nat.le_trans hb.size (h3.lt q hq).1), hb.trans (h4.mono hb.size)⟩
  · rename_i hp
    obtain ⟨v, v', z, h1, h2, h3⟩ := h
    rw [if_neg hp]
    exact ⟨v, v', z, h1, h2, hb.trans (h3.mono hb.size)⟩
theorem PgsE.bl {w w' : World} {L : LogS} {t : Nat} {mk : List (Nat × Int)} {e : Ending} (h : PgsE w L t mk e w') : Below w.heap.size w w' := by
  unfold PgsE at h
  split at h
  · obtain ⟨_, _, _, _, _, _, _, _, _, h1⟩ := h
    exact h1
  · obtain ⟨_, _, _, _, _, h1⟩ := h
    exact h1
theorem PgsE.form {w w' : World} {L : LogS} {t : Nat} {mk : List (Nat × Int)} {e : Ending} (h : PgsE w L t mk e w') : ∃ v v' v'', e = .returned (.tuple #[v, v', v'']) := by
  unfold PgsE at h
  split at h
  · obtain ⟨_, _, _, _, _, _, h1, _⟩ := h
    exact ⟨_, _, _, h1⟩
  · obtain ⟨_, _, _, _, h1, _⟩ := h
    exact ⟨_, _, _, h1⟩
theorem numOf_mem {bs : Boxes} (hn : (bs.map fun p => p.2.l.name).Nodup) {n : Nat} {b : BoxSt} (hb : (n, b) ∈ bs) (hu : bs.nums.Pairwise (· < ·)) : numOf bs b.l.name = some n := by
  cases h : numOf bs b.l.name with
  | none => exact absurd (List.mem_map.2 ⟨(n, b), hb, rfl⟩) (numOf_none h)
  | some k =>
    obtain ⟨b', hb', hn'⟩ := numOf_some h
    congr 1
    obtain ⟨i, hi⟩ := List.mem_iff_getElem?.1 hb
    obtain ⟨j, hj⟩ := List.mem_iff_getElem?.1 hb'
    have hij : i = j := by
      rw [List.Nodup, List.pairwise_iff_getElem] at hn
      obtain ⟨hi1, hi2⟩ := List.getElem?_eq_some_iff.1 hi
      obtain ⟨hj1, hj2⟩ := List.getElem?_eq_some_iff.1 hj
      rcases Nat.lt_trichotomy i j with hlt | he | hlt
      · exact absurd (by rw [List.getElem_map, List.getElem_map, hi2, hj2]; exact hn'.symm) (hn i j (by simpa using hi1) (by simpa using hj1) hlt)
      · exact he
      · exact absurd (by rw [List.getElem_map, List.getElem_map, hi2, hj2]; exact hn') (hn j i (by simpa using hj1) (by simpa using hi1) hlt)
    subst hij
    rw [hi] at hj
    injection hj with hj
    injection hj with hj _
    exact hj.symm
/-- what note hands back: an error, and nothing has turned; or all is laid -/
def NotedE (w : World) (gs g m mm cap : Nat) (F : DiskF) (bs : Boxes) (n : Nat) (b' : BoxSt) (e : Ending) (w' : World) : Prop :=
  (∃ z : Int, z ≠ 0 ∧ e = .returned (.int .i64 z) ∧ Below w.heap.size w w') ∨
  (e = .returned (.int .i64 0) ∧ ∃ F', StoreS w' gs g m mm cap F' (bs.turn n b') ∧ Laid F F' n b' ∧ Only (DB g m) w w')
/-- the slices of frames, as rows of slices -/
theorem sls_of {w : World} {base : Nat} {A : Option Addr} {n c : Nat} {ss : List Value} {ns : List Note} (h : RowO w base 23 1 A n c (ss.map sV)) (ha : All2 (OwnS w base) ss ns) : Sls w A n (ns.map frB) := by
  refine ⟨ss.map sV, h.read, ?_⟩
  have key : ∀ {us : List Value} {ys : List Note}, All2 (OwnS w base) us ys → All2 (SlV w) (us.map sV) (ys.map frB) := by
    intro us
    induction us with
    | nil => intro ys h1; cases ys with
      | nil => trivial
      | cons _ _ => exact h1.elim
    | cons s us ih => intro ys h1; cases ys with
      | nil => exact h1.elim
      | cons y ys =>
        obtain ⟨⟨B, m, d, rfl, h2⟩, h3⟩ := h1
        exact ⟨⟨B, m, d, rfl, h2.read, h2.le⟩, ih h3⟩
  exact key ha
theorem takeS_ln (l : LogS) (n : Note) (a : Nat) : (takeS l n a).live.length ≤ l.live.length + 1 := by
  unfold takeS
  dsimp only
  split
  · simp
  · split
    · exact Nat.le_trans (List.length_filter_le _ _) (by omega)
    · omega
theorem takeAll_ln : ∀ (ns : List Note) (l : LogS) (a : Nat), (takeAll l a ns).live.length ≤ l.live.length + ns.length
  | [], _, _ => Nat.le_refl _
  | n :: ns, l, a => by
    have h1 := takeAll_ln ns (takeS l n a) (a + 44 + (encode n).length)
    have h2 := takeS_ln l n a
    show (takeAll (takeS l n a) (a + 44 + (encode n).length) ns).live.length ≤ l.live.length + (ns.length + 1)
    omega
theorem logB_ge : ∀ ns : List Note, ns.length ≤ (logB ns).length
  | [] => Nat.zero_le _
  | n :: ns => by
    have h := logB_ge ns
    rw [show n :: ns = [n] ++ ns from rfl, logB_append, List.length_append, List.length_append, logB_flat [n]]
    have e : ([n].flatMap frB).length = (encode n).length + 44 := by
      rw [List.flatMap_cons, List.flatMap_nil, List.append_nil]
      exact frameB_length _ _
    rw [e]
    show 1 + ns.length ≤ _
    omega
theorem live_le (ns : List Note) : (readS ns).live.length ≤ (logB ns).length := by
  have h1 := takeAll_ln ns .start 0
  have h2 := logB_ge ns
  have h3 : LogS.start.live.length = 0 := rfl
  unfold readS
  omega
theorem frB_flatten (ns : List Note) : (ns.map frB).flatten = logB ns := by rw [logB_flat, List.flatMap_def]
theorem LiveR.keep {S : Nat → Prop} {w w' : World} (ho : Only S w w') (hS : ∀ b, S b → NoB w b) (v : List Value) (x : LiveS) (h : LiveR w v x) : LiveR w' v x := by
  obtain ⟨B, m, d, h1, h2, h3⟩ := h
  exact ⟨B, m, d, h1, h2.keep ho hS, h3⟩
/-- a row of messages is none of a disk's blocks -/
theorem DiskS.msgs {w w' : World} {g m cap : Nat} {F : DiskF} (h : DiskS w g m cap F) (ho : Only (DB g m) w w') {A : Option Addr} {k : Nat} {vs : List (List Value)} {ms : List Msg} (hr : RowR w A k 4 vs) (hx : All2 MsgV vs ms) : RowR w' A k 4 vs := by
  by_cases hk : k = 0
  · subst hk
    have e := List.length_eq_zero_iff.1 hr.len
    subst e
    exact RowR.nil _ _ _
  · obtain ⟨q, v, rfl, hv, -, hc⟩ := hr.at_ (i := 0) (by omega)
    obtain ⟨x, hx0⟩ : ∃ x, ms[0]? = some x := ⟨_, List.getElem?_eq_getElem (by have := hx.length; have := hr.len; omega)⟩
    obtain ⟨v', hv', B, b, d, rfl, -⟩ := hx.at_ hx0
    rw [hv] at hv'
    injection hv' with hv'
    subst hv'
    have c : w.cell? ⟨q, 0, none⟩ = some (.int .u32 (x.uid : Int)) := by have := hc 0 _ rfl; rwa [Nat.zero_mul] at this
    refine hr.only ho (fun b hb e => ?_)
    cases hb
    rcases e with e | e
    · simp only at e
      subst e
      rw [h.c0] at c
      cases c
    · simp only at e
      subst e
      obtain ⟨L, ⟨es, cl, hm, _⟩, _⟩ := h.map
      unfold World.cell? at c
      simp only [hm] at c
      cases c
theorem numOf_turn {bs : Boxes} {n : Nat} {b b' : BoxSt} (hu : bs.nums.Pairwise (· < ·)) (hb : (n, b) ∈ bs) (hname : b'.l.name = b.l.name) (s : ByteArray) : numOf (bs.turn n b') s = numOf bs s := by
  have hun := uniq hu hb
  have key : ∀ l : Boxes, (∀ p ∈ l, p ∈ bs) → numOf (l.turn n b') s = numOf l s := by
    intro l
    induction l with
    | nil => intro _; rfl
    | cons p r ih =>
      intro hl
      have ihr := ih (fun q hq => hl q (by simp [hq]))
      unfold numOf Boxes.turn at *
      rw [List.map_cons, List.find?_cons, List.find?_cons]
      by_cases hp : p.1 = n
      · have e := hun p (hl p (by simp)) hp
        subst e
        rw [if_pos rfl]
        simp only [hname]
        by_cases h1 : b.l.name = s
        · simp only [h1, decide_true, Option.map_some]
        · simp only [h1, decide_false]
          exact ihr
      · rw [if_neg hp]
        split
        · rfl
        · exact ihr
  exact key bs (fun p hp => hp)
theorem Two.laid {F F3 F' : DiskF} {n : Nat} {b : BoxSt} (h3 : Upd F F3 (logN n) (some (safeF (logB b.ns)))) (h : Two F3 F' n (flgB b.f) (idxB b.idx)) : Laid F F' n b := fun s => by
  rw [h s]
  split
  · rfl
  · split
    · rfl
    · rw [h3 s]
theorem new_log (n : Nat) (h : n < 16) : newN ≠ logN n := fun e => (names_apart n h).2.1 e.symm
end Go.Proofs.YtlhaempecidohaaGreatDoor
