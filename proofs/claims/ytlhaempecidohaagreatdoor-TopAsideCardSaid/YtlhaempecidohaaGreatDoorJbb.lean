/-
  Package log: Read of the frames of formed notes. Package log: Box of a log that is clean. Rows of structs: one cell of one struct is written; slices.Clone of messages; mail.clone. Package mail: fits, Right, At, New.
-/
import Derived.Test.YtlhaempecidohaaGreatDoorJay
import Derived.Test.YtlhaempecidohaaGreatDoorJav
import Derived.Test.YtlhaempecidohaaGreatDoorJba
import Derived.Test.YtlhaempecidohaaGreatDoorJak
import Derived.Test.YtlhaempecidohaaGreatDoorJax
set_option linter.unusedSimpArgs false
set_option linter.unusedVariables false
namespace Go.Proofs.YtlhaempecidohaaGreatDoor
open Go.RowKit
theorem recsFrom_length : ∀ (l : List (Nat × List Nat)) (i : Nat), (recsFrom i l).length = l.length
  | [], _ => rfl
  | (k, p) :: l, i => by simp [recsFrom, recsFrom_length l]
theorem recs_get : ∀ (ns : List Note) (b i : Nat) (x : Note), ns[i]? = some x → (recsFrom b (ns.map pair))[i]? = some (b + (logB (ns.take i)).length, x.kind.toNat, encode x)
  | y :: ns, b, 0, x, h => by cases h; simp [recsFrom, pair, logB, frames]
  | y :: ns, b, i + 1, x, h => by
    have := recs_get ns (b + 44 + (encode y).length) i x h
    show (recsFrom (b + 44 + (encode y).length) (ns.map pair))[i]? = _
    rw [this, List.take_succ_cons, logB_cons, List.length_append, frameB_length]
    congr 2
    omega
theorem takeAll_step (ns : List Note) (i : Nat) (x : Note) (h : ns[i]? = some x) : takeAll .start 0 (ns.take (i + 1)) = takeS (takeAll .start 0 (ns.take i)) x (logB (ns.take i)).length := by
  obtain ⟨hi, hx⟩ := List.getElem?_eq_some_iff.1 h
  rw [List.take_succ_eq_append_getElem hi, takeAll_append, hx, Nat.zero_add]
  rfl
theorem takeS_len (l : LogS) (n : Note) (a : Nat) : (takeS l n a).live.length ≤ l.live.length + 1 := by
  rw [takeS_live]
  split
  · simp
  · split
    · have := List.length_filter_le (fun x : LiveS => !(decide (x.epoch = n.epoch) && decide (x.msg.uid = n.msg.uid))) l.live
      omega
    · omega
theorem takeAll_len : ∀ (ns : List Note) (l : LogS) (a : Nat), (takeAll l a ns).live.length ≤ l.live.length + ns.length
  | [], _, _ => Nat.le_refl _
  | n :: ns, l, a => by
    have h1 := takeAll_len ns (takeS l n a) (a + 44 + (encode n).length)
    have h2 := takeS_len l n a
    show (takeAll (takeS l n a) (a + 44 + (encode n).length) ns).live.length ≤ _
    rw [List.length_cons]
    omega
theorem notes_le (ns : List Note) : 44 * ns.length ≤ (logB ns).length := by
  induction ns with
  | nil => simp
  | cons n ns ih => rw [logB_cons, List.length_append, frameB_length, List.length_cons]; omega
theorem row87 : (Tryz.prog.underlying 87).map TypeDesc.isRow = some true := by kernel_rfl
theorem size87 : (Tryz.prog.info? 87).map (·.size) = some 6 := by kernel_rfl
/-- what Read hands back -/
def ReadE (w : World) (L : LogS) (t : Int) (cl : Bool) (e : Ending) (w' : World) : Prop :=
  ∃ A n c vs, e = .returned (.agg (logCells L (.slice A n c) t cl).toArray) ∧ RowO w' w.heap.size 224 6 A n c vs ∧ All2 (LiveA w' A) vs L.live ∧ Below w.heap.size w w'
set_option maxRecDepth 8000 in
set_option maxHeartbeats 3000000 in
theorem read_any (A : Option Addr) (n c : Nat) (ns : List Note) (w : World) (hf : Formed ns) (hb : RB w A n (logB ns)) (hc : n ≤ c) (hn : n ≤ 5000000) (hE : Env w) :
    Calls Tryz.prog 37 #[.slice A n c] w (ReadE w (readS ns) n (cleanS (readS ns))) := by
  have hlen := hb.1
  have hb0 : Below w.heap.size w (w.alloc (.cells #[.string ⟨#[]⟩, .int .u32 0, .int .u32 0, .slice none 0 0, .int .i64 0, .bool false] 87)) := (Below.refl _ _).alloc (Nat.le_refl _) _
  have hS := scan_frames_any A n c (ns.map pair) _ hf.good (hb.below hb0) hc hn
  have HF := Lib.hid hf
  have HE := Lib.hid (hE.below hb0)
  have HB0 := Lib.hid hb0
  have HS := Lib.hid hS
  have HLEN : Hid ((logB ns).length = n) := hlen
  have hnl := notes_le ns
  have hnn : ns.length ≤ 200000 := by omega
  clear hf hE hb0 hS hlen hnl hb
  go_enter Tryz.func37, Tryz.ntmps37
  go_wp2_with fail
  refine HS.out.mono ?_
  rintro e w1 ⟨A1, n1, c1, es, rfl, hrec, hmap, hb1⟩
  dsimp only
  rw [show (frames (List.map pair ns)).length = n from HLEN.out]
  have hrl : es.length = ns.length := by
    have := congrArg List.length hmap
    rw [List.length_map, recsFrom_length, List.length_map] at this
    exact this
  have hn1 : n1 = ns.length := by rw [← hrl]; exact hrec.1.symm
  subst hn1
  obtain ⟨ws, hws⟩ : ∃ ws, ws = w1.alloc (.cells #[.string ⟨#[]⟩, .int .u32 0, .int .u32 1, .slice none 0 0, .int .i64 (n : Int), .bool false] 87) := ⟨_, rfl⟩
  have hbs : Below w1.heap.size w1 ws := by rw [hws]; exact (Below.refl _ _).alloc (Nat.le_refl _) _
  have hgs : ws.heap[w1.heap.size]? = some (.cells (logCells .start (.slice none 0 0) n false).toArray 87 (0, 0)) := by rw [hws]; exact heap_alloc_new w1 _
  have hss : ws.heap.size = w1.heap.size + 1 := by rw [hws]; simp
  have HREC := Lib.hid hrec.read
  have HMAP := Lib.hid hmap
  have HB1 := Lib.hid (HB0.out.trans (hb1.mono HB0.out.size))
  have HE1 := Lib.hid (HE.out.below hb1)
  have HWS := Lib.hid hws
  have HBS := Lib.hid hbs
  have HM0 : Hid (LogM ws (w1.heap.size + 1) w1.heap.size none 0 0 [] .start n false) := ⟨hgs, RowO.nil _ _ _ _, trivial, by omega⟩
  have HR0 : Hid (w1.heap[w.heap.size]? = some (.cells #[.string ⟨#[]⟩, .int .u32 0, .int .u32 0, .slice none 0 0, .int .i64 0, .bool false] 87 (0, 0))) := (hb1.block w.heap.size (by simp)).trans (heap_alloc_new w _)
  have hwlt : w.heap.size < w1.heap.size := (Array.getElem?_eq_some_iff.1 HR0.out).1
  clear hrec hmap hb1 hws hbs hgs
  go_wp2_with fail
  rw [← HWS.out]
  go_loopw [19] (fun v19 wr => ∃ (i : Nat) (A' : Option Addr) (n' c' : Nat) (vs : List (List Value)), i ≤ ns.length ∧ v19 = .int .i64 (i : Int) ∧ LogM wr (w1.heap.size + 1) w1.heap.size A' n' c' vs (takeAll .start 0 (ns.take i)) n false ∧ Below w1.heap.size w1 wr) (fun v19 _ => ns.length - (intOf v19).toNat)
  case atStart => exact ⟨0, none, 0, 0, [], Nat.zero_le _, rfl, HM0.out, HBS.out⟩
  case round =>
    obtain ⟨i, A', n', c', vs, hi, rfl, hm, hb⟩ := hrel
    have HM := Lib.hid hm
    have HB := Lib.hid hb
    clear hm hb
    by_cases hlt : i < ns.length
    · obtain ⟨x, hx⟩ : ∃ x, ns[i]? = some x := ⟨_, List.getElem?_eq_getElem hlt⟩
      have hg := recs_get ns 0 i x hx
      rw [Nat.zero_add, ← HMAP.out, List.getElem?_map] at hg
      obtain ⟨en, hen, her⟩ := Option.map_eq_some_iff.1 hg
      obtain ⟨ei, ek, eA, enn, ec, ep⟩ := en
      unfold Entry.rec_ at her
      dsimp only at her
      injection her with her1 her2
      injection her2 with her2 her3
      subst her1 her2 her3
      obtain ⟨hfx, hwx⟩ := HF.out x (List.mem_of_getElem? hx)
      have hk := formed_kind hfx
      have hkk : ((x.kind.toNat : Nat) : Int) = x.kind := by omega
      obtain ⟨gR, hA1, hce⟩ := HREC.out.2.1 (by omega)
      obtain ⟨r0, r1, r2⟩ := hce i _ hen
      dsimp only at r0 r1 r2
      rw [hkk] at r1
      have hrb := HREC.out.2.2 _ (List.mem_of_getElem? hen)
      dsimp only at hrb
      subst hA1
      have r0 := cell_later HB.out r0
      have r1 := cell_later HB.out r1
      have r2 := cell_later HB.out r2
      have HX := Lib.hid hx
      have HFX := Lib.hid hfx
      have HWX := Lib.hid hwx
      have HK := Lib.hid hk
      have HRB := Lib.hid (hrb.below HB.out)
      have HEW := Lib.hid (HE1.out.below HB.out)
      obtain ⟨at_, hat⟩ : ∃ a, a = (logB (ns.take i)).length := ⟨_, rfl⟩
      rw [← hat] at r0
      have HAT := Lib.hid hat
      clear hx hg hen hfx hwx hk hkk hce hrb hat
      obtain ⟨wa, hwa⟩ : ∃ wa, wa = wr.alloc (.cells #[.int .i64 (at_ : Int), .int .i64 x.kind, .slice eA enn ec] 166) := ⟨_, rfl⟩
      have hba : Below wr.heap.size wr wa := by rw [hwa]; exact (Below.refl _ _).alloc (Nat.le_refl _) _
      have a0 : wa.cell? ⟨wr.heap.size, 0, none⟩ = some (.int .i64 (at_ : Int)) := by rw [hwa]; exact cell_new wr _ 166 rfl
      have hdec := decode_any x eA enn ec HFX.out HWX.out wa (HRB.out.below hba) (HEW.out.below hba)
      unfold Decoded noteV noteCells msgCells at hdec
      dsimp only [List.cons_append, List.nil_append] at hdec
      have HDEC := Lib.hid hdec
      have HBA := Lib.hid hba
      have HWA := Lib.hid hwa
      clear hdec hba hwa
      go_wp2_with fail
      rw [← HWA.out]
      refine HDEC.out.mono ?_
      rintro e w2 ⟨B, m, d, rfl, hrb2, hmd, hb2, hfr⟩
      have a0 := cell_later hb2 a0
      obtain ⟨wb, hwb⟩ : ∃ wb, wb = w2.alloc (.cells #[.int .i64 x.kind, .int .u32 (x.epoch : Int), .string x.name, .int .u32 (x.msg.uid : Int), .int .i64 x.msg.date, .int .i64 x.msg.flags, .slice B m d] 134) := ⟨_, rfl⟩
      have hbb : Below w2.heap.size w2 wb := by rw [hwb]; exact (Below.refl _ _).alloc (Nat.le_refl _) _
      have hrow := HM.out.row
      have hln : n' ≤ 10000000 := by
        have h1 := takeAll_len (ns.take i) .start 0
        have h2 := HM.out.all.length
        rw [HM.out.row.len] at h2
        rw [List.length_take] at h1
        have h3 : LogS.start.live.length = 0 := rfl
        omega
      have hgw := (Array.getElem?_eq_some_iff.1 HM.out.blk).1
      have htk := takeN_any (w1.heap.size + 1) w1.heap.size A' n' c' vs (takeAll .start 0 (ns.take i)) n false x B m d at_ wb (((HM.out.below HBA.out).below hb2).below hbb) HK.out (hrb2.below hbb) hmd (fun h0 q hq e => by
        have := (hrow.lt q e).2
        have := hfr q hq
        have := HBA.out.size
        omega) hln (by have := HB.out.size; have := HBA.out.size; have := hb2.size; have := hbb.size; omega) HWX.out.msg.uid
      unfold TookN noteV noteCells msgCells at htk
      dsimp only [List.cons_append, List.nil_append] at htk
      have HTK := Lib.hid htk
      have HWB := Lib.hid hwb
      have HB2 := Lib.hid (((HB.out.trans (HBA.out.mono HB.out.size)).trans (hb2.mono (Nat.le_trans HB.out.size HBA.out.size))).trans (hbb.mono (by have := HB.out.size; have := HBA.out.size; have := hb2.size; omega)))
      have HRL : Hid (∀ q, blk A' = some q → w1.heap.size + 1 ≤ q) := fun q hq => (hrow.lt q hq).1
      clear hrb2 hmd hb2 hfr hwb hbb hrow hln htk r0 r1 r2
      have hlw : wr.heap.size < w2.heap.size := World.block_lt_of_cell? _ _ a0
      have hlw' : ¬ wr.heap.size = w2.heap.size := by omega
      go_wp2_with fail
      rw [← HWB.out]
      refine HTK.out.mono ?_
      rintro e w3 ⟨rfl, A4, n4, c4, vs4, hm4, ho4, hq4⟩
      have HM4 := Lib.hid hm4
      have HB4 := Lib.hid (HB2.out.trans (ho4.below HB2.out.size (fun b hb e => by
        rcases e with e | e
        · omega
        · have := HRL.out b e
          omega)))
      clear hm4 ho4 hq4 a0
      go_wp2_with fail
      refine ⟨⟨i + 1, A4, n4, c4, vs4, hlt, by first | rfl | (congr 1), ?_, HB4.out⟩, by simp [intOf]; omega⟩
      rw [takeAll_step ns i x HX.out, ← HAT.out]
      exact HM4.out
    · obtain rfl : i = ns.length := by omega
      have hm := HM.out
      rw [List.take_of_length_le (Nat.le_refl _)] at hm
      have HM' : Hid (LogM wr (w1.heap.size + 1) w1.heap.size A' n' c' vs (readS ns) n false) := hm
      have hln : n' ≤ 10000000 := by
        have h1 := takeAll_len ns .start 0
        have h2 := HM'.out.all.length
        rw [HM'.out.row.len] at h2
        have h3 : LogS.start.live.length = 0 := rfl
        have h4 : (readS ns).live.length = (takeAll .start 0 ns).live.length := rfl
        omega
      have HCL := Lib.hid (clean_any _ _ _ _ _ _ _ _ _ _ HM'.out hln)
      clear hm HM hln
      go_wp2_with fail
      refine HCL.out.mono ?_
      rintro e w2 ⟨rfl, hb2⟩
      obtain ⟨cl, hcl⟩ : ∃ b, b = cleanS (readS ns) := ⟨_, rfl⟩
      rw [← hcl]
      have HCE := Lib.hid hcl
      have hm2 := HM'.out.below hb2
      have hB2 := HB.out.trans (hb2.mono HB.out.size)
      have hg := hm2.blk
      unfold logCells at hg
      have HG := Lib.hid hg
      have hr := (hB2.block w.heap.size hwlt).trans HR0.out
      have HR := Lib.hid hr
      have HM2 := Lib.hid hm2
      have HB2 := Lib.hid hB2
      clear hcl hb2 hm2 hB2 hg hr HCL
      have g0 : w2.cell? ⟨w1.heap.size, 0, none⟩ = some (.string (readS ns).name) := cell_of_row w2 _ 0 _ _ _ HG.out
      have g1 : w2.cell? ⟨w1.heap.size, 1, none⟩ = some (.int .u32 ((readS ns).epoch : Int)) := cell_of_row w2 _ 1 _ _ _ HG.out
      have g2 : w2.cell? ⟨w1.heap.size, 2, none⟩ = some (.int .u32 ((readS ns).next : Int)) := cell_of_row w2 _ 2 _ _ _ HG.out
      have g3 : w2.cell? ⟨w1.heap.size, 3, none⟩ = some (.slice A' n' c') := cell_of_row w2 _ 3 _ _ _ HG.out
      have g4 : w2.cell? ⟨w1.heap.size, 4, none⟩ = some (.int .i64 (n : Int)) := cell_of_row w2 _ 4 _ _ _ HG.out
      have g5 : w2.cell? ⟨w1.heap.size, 5, none⟩ = some (.bool false) := cell_of_row w2 _ 5 _ _ _ HG.out
      have gf : ∀ j, w2.frozen? ⟨w1.heap.size, j, none⟩ = false := fun j => by simp [World.frozen?, HG.out]
      have r0 := cell_of_row w2 _ 0 _ _ _ HR.out
      have r1 := cell_of_row w2 _ 1 _ _ _ HR.out
      have r2 := cell_of_row w2 _ 2 _ _ _ HR.out
      have r3 := cell_of_row w2 _ 3 _ _ _ HR.out
      have r4 := cell_of_row w2 _ 4 _ _ _ HR.out
      have r5 := cell_of_row w2 _ 5 _ _ _ HR.out
      have rf : ∀ j, w2.frozen? ⟨w.heap.size, j, none⟩ = false := fun j => by simp [World.frozen?, HR.out]
      go_wp2_with fail
      obtain ⟨w5, hw5⟩ : ∃ w5, w5 = (((((((w2.setCell ⟨w1.heap.size, 5, none⟩ (.bool cl)).setCell ⟨w.heap.size, 0, none⟩ (.string (readS ns).name)).setCell ⟨w.heap.size, 1, none⟩ (.int .u32 ((readS ns).epoch : Int))).setCell ⟨w.heap.size, 2, none⟩ (.int .u32 ((readS ns).next : Int))).setCell ⟨w.heap.size, 3, none⟩ (.slice A' n' c')).setCell ⟨w.heap.size, 4, none⟩ (.int .i64 (n : Int))).setCell ⟨w.heap.size, 5, none⟩ (.bool cl)) := ⟨_, rfl⟩
      rw [← hw5]
      have ho3 : Only (fun b => b = w1.heap.size) w2 (w2.setCell ⟨w1.heap.size, 5, none⟩ (.bool cl)) := (Only.refl (fun b => b = w1.heap.size) w2).setCell (p := ⟨w1.heap.size, 5, none⟩) (.inl rfl) _
      have hm3 : LogM (w2.setCell ⟨w1.heap.size, 5, none⟩ (.bool cl)) (w1.heap.size + 1) w1.heap.size A' n' c' vs (readS ns) n cl := HM2.out.turn (blk_set HG.out 5 _) rfl ho3
      have hne : ¬ w.heap.size = w1.heap.size := by omega
      have hr3 := ho3.heap HR.out hne
      have ho5 : Only (fun b => b = w.heap.size) (w2.setCell ⟨w1.heap.size, 5, none⟩ (.bool cl)) w5 := by
        rw [hw5]
        exact ((((((Only.refl (fun b => b = w.heap.size) (w2.setCell ⟨w1.heap.size, 5, none⟩ (.bool cl))).setCell (p := ⟨w.heap.size, 0, none⟩) (.inl rfl) _).setCell (p := ⟨w.heap.size, 1, none⟩) (.inl rfl) _).setCell (p := ⟨w.heap.size, 2, none⟩) (.inl rfl) _).setCell (p := ⟨w.heap.size, 3, none⟩) (.inl rfl) _).setCell (p := ⟨w.heap.size, 4, none⟩) (.inl rfl) _).setCell (p := ⟨w.heap.size, 5, none⟩) (.inl rfl) _
      have hH5 : w5.heap[w.heap.size]? = some (.cells (logCells (readS ns) (.slice A' n' c') n cl).toArray 87 (0, 0)) := by
        rw [hw5]
        exact blk_set (blk_set (blk_set (blk_set (blk_set (blk_set hr3 0 _) 1 _) 2 _) 3 _) 4 _) 5 _
      have hnb : NoB (w2.setCell ⟨w1.heap.size, 5, none⟩ (.bool cl)) w.heap.size := NoB.cells hr3 (fun j x e => by
        rw [List.getElem?_toArray] at e
        rcases j with _ | _ | _ | _ | _ | _ | j <;> simp at e)
      have hrow5 : RowO w5 w.heap.size 224 6 A' n' c' vs := (hm3.row.only ho5 (fun q hq e => by have := (hm3.row.lt q hq).1; omega)).more (fun q hq => by have := (hm3.row.lt q hq).1; omega)
      have hall5 : All2 (LiveA w5 A') vs (readS ns).live := hm3.all.mono (by
        rintro v y ⟨B', m', d', h1, h2, h3, h4⟩
        exact ⟨B', m', d', h1, h2.keep ho5 (fun b hb => hb ▸ hnb), h3, h4⟩)
      have hb5 : Below w.heap.size w w5 := (HB1.out.trans (HB2.out.mono HB1.out.size)).trans ((ho3.below (by have := HB1.out.size; have := HB2.out.size; omega) (fun b hb e => by omega)).trans (ho5.below (by have := ho3.size; have := HB1.out.size; have := HB2.out.size; omega) (fun b hb e => by omega)))
      have HH5 := Lib.hid hH5
      try simp only [Exit.inBlock, Exit.then]
      refine bodyPost_ret (results_cell_row' rfl _ _ w.heap.size 87 _ (0, 0) rfl HH5.out row87 size87) rfl ?_
      exact ⟨A', n', c', vs, by rw [← HCE.out], hrow5, hall5, hb5⟩
end Go.Proofs.YtlhaempecidohaaGreatDoor
namespace Go.Proofs.YtlhaempecidohaaGreatDoor
open Go.RowKit
/-- a message in a row that lies at A -/
def MsgA (w : World) (A : Option Addr) (v : List Value) (x : Msg) : Prop := ∃ B m d, v = msgCells x (.slice B m d) ∧ RB w B m x.oct ∧ m ≤ d ∧ (0 < m → ∀ q, blk B = some q → blk A ≠ some q)
def boxCells (nm : ByteArray) (ep nx : Nat) (o : Value) : List Value := [.string nm, .int .u32 (ep : Int), .int .u32 (nx : Int), o]
/-- a mailbox at block g, its messages in a row at A -/
structure BoxM (w : World) (base g : Nat) (A : Option Addr) (n c : Nat) (vs : List (List Value)) (nm : ByteArray) (ep nx : Nat) (ms : List Msg) : Prop where
  blk : w.heap[g]? = some (.cells (boxCells nm ep nx (.slice A n c)).toArray 49 (0, 0))
  row : RowO w base 37 4 A n c vs
  all : All2 (MsgA w A) vs ms
  lt : g < base
theorem boxNoB {w : World} {g : Nat} {nm : ByteArray} {ep nx : Nat} {A : Option Addr} {n c : Nat} (h : w.heap[g]? = some (.cells (boxCells nm ep nx (.slice A n c)).toArray 49 (0, 0))) : NoB w g :=
  NoB.cells h (fun j x e => by
    unfold boxCells at e
    rw [List.getElem?_toArray] at e
    rcases j with _ | _ | _ | _ | j <;> simp at e)
section
variable {w w' : World} {base g n c : Nat} {A : Option Addr} {vs : List (List Value)} {nm : ByteArray} {ep nx : Nat} {ms : List Msg}
theorem BoxM.ne (h : BoxM w base g A n c vs nm ep nx ms) : YtlhaempecidohaaGreatDoor.blk A ≠ some g := fun e => by
  have := (h.row.lt g e).1
  have := h.lt
  omega
theorem BoxM.below (h : BoxM w base g A n c vs nm ep nx ms) (hb : Below w.heap.size w w') : BoxM w' base g A n c vs nm ep nx ms :=
  ⟨(hb.block g (Array.getElem?_eq_some_iff.1 h.blk).1).trans h.blk, h.row.below hb, h.all.mono (fun v x ⟨B, m, d, h1, h2, h3, h4⟩ => ⟨B, m, d, h1, h2.below hb, h3, h4⟩), h.lt⟩
end
/-- one message more -/
theorem box_more {we w4 w5 : World} {base g n c m d c5 : Nat} {A A5 B : Option Addr} {vs : List (List Value)} {nm : ByteArray} {ep nx : Nat} {ms : List Msg} {x : Msg} (h : BoxM we base g A n c vs nm ep nx ms) (hr : RB we B m x.oct) (hmd : m ≤ d)
    (hap : 0 < m → ∀ q, blk B = some q → blk A ≠ some q) (hb4 : Below we.heap.size we w4) (hro5 : RowO w5 base 37 4 A5 (n + 1) c5 (vs ++ [msgCells x (.slice B m d)])) (ho5 : Only (fun b => blk A = some b) w4 w5)
    (hbk : blk A5 = blk A ∨ blk A5 = some w4.heap.size) :
    BoxM (w5.setCell ⟨g, 3, none⟩ (.slice A5 (n + 1) c5)) base g A5 (n + 1) c5 (vs ++ [msgCells x (.slice B m d)]) nm ep nx (ms ++ [x]) ∧
      Only (fun b => b = g ∨ blk A = some b) we (w5.setCell ⟨g, 3, none⟩ (.slice A5 (n + 1) c5)) := by
  have hlt := (Array.getElem?_eq_some_iff.1 h.blk).1
  have hg5 : w5.heap[g]? = _ := ho5.heap ((hb4.block g hlt).trans h.blk) h.ne
  have hnb := boxNoB hg5
  have ho6 : Only (fun b => b = g) w5 (w5.setCell ⟨g, 3, none⟩ (.slice A5 (n + 1) c5)) := (Only.refl (fun b => b = g) w5).setCell (p := ⟨g, 3, none⟩) (.inl rfl) _
  have hne5 : ∀ q, blk A5 = some q → ¬ q = g := fun q hq e => by
    have := (hro5.lt q hq).1
    have := h.lt
    omega
  refine ⟨⟨blk_set hg5 3 _, hro5.only ho6 hne5, ?_, h.lt⟩, ?_⟩
  · refine All2.snoc (h.all.mono ?_) ?_
    · rintro v y ⟨B', m', d', h1, h2, h3, h4⟩
      obtain ⟨k1, k2⟩ := pays_later h2 h4 hb4 ho5 hbk hnb ho6
      exact ⟨B', m', d', h1, k1, h3, k2⟩
    · obtain ⟨k1, k2⟩ := pays_later hr hap hb4 ho5 hbk hnb ho6
      exact ⟨B, m, d, rfl, k1, hmd, k2⟩
  · exact ((Only.of_below hb4 (fun b => b = g ∨ blk A = some b)).trans ho5 (fun _ _ h => .inr h)).trans ho6 (fun _ _ h => .inl h)
theorem row37 : (Tryz.prog.underlying 37).map TypeDesc.isRow = some true := by kernel_rfl
theorem size37 : (Tryz.prog.info? 37).map (·.size) = some 4 := by kernel_rfl
theorem row49 : (Tryz.prog.underlying 49).map TypeDesc.isRow = some true := by kernel_rfl
theorem size49 : (Tryz.prog.info? 49).map (·.size) = some 4 := by kernel_rfl
theorem inf37 : (Tryz.prog.info? 37).map (fun i => (i.zero, i.size, i.bytes)) = some (some (.agg #[.int .u32 0, .int .i64 0, .int .i64 0, .slice none 0 0]), 4, 48) := by kernel_rfl
theorem und47 : Tryz.prog.underlying 47 = some (.slice 37) := by kernel_rfl
/-- a mailbox that is handed back -/
def BoxE (w : World) (nm : ByteArray) (ep nx : Nat) (ms : List Msg) (e : Ending) (w' : World) : Prop :=
  ∃ A n c vs, e = .returned (.agg (boxCells nm ep nx (.slice A n c)).toArray) ∧ RowO w' w.heap.size 37 4 A n c vs ∧ All2 (MsgA w' A) vs ms ∧ Below w.heap.size w w'
/-- a live message, read -/
def LiveR (w : World) (v : List Value) (x : LiveS) : Prop := ∃ B m d, v = liveCells x (.slice B m d) ∧ RB w B m x.msg.oct ∧ m ≤ d
theorem LiveA.r {w : World} {A : Option Addr} (v : List Value) (x : LiveS) (h : LiveA w A v x) : LiveR w v x := by
  obtain ⟨B, m, d, h1, h2, h3, -⟩ := h
  exact ⟨B, m, d, h1, h2, h3⟩
set_option maxRecDepth 8000 in
set_option maxHeartbeats 3000000 in
theorem box_any (L : LogS) (A : Option Addr) (n c : Nat) (vs : List (List Value)) (t : Int) (w : World) (hr : RowR w A n 6 vs) (hx : All2 (LiveR w) vs L.live) (hn : n ≤ 10000000) (hoct : ∀ x ∈ L.live, x.msg.oct.length ≤ 10000000) :
    Calls Tryz.prog 88 #[.agg (logCells L (.slice A n c) t true).toArray] w (BoxE w L.name L.epoch L.next (L.live.map (·.msg))) := by
  unfold logCells
  obtain ⟨ws, hws⟩ : ∃ ws, ws = ((w.alloc (.cells #[.string L.name, .int .u32 (L.epoch : Int), .int .u32 (L.next : Int), .slice A n c, .int .i64 t, .bool true] 87)).alloc (.cells #[.string ⟨#[]⟩, .int .u32 0, .int .u32 0, .slice none 0 0] 49)).alloc (.cells #[.string L.name, .int .u32 (L.epoch : Int), .int .u32 (L.next : Int), .slice none 0 0] 49) := ⟨_, rfl⟩
  have hss : ws.heap.size = w.heap.size + 3 := by rw [hws]; simp
  have hbs : Below w.heap.size w ws := by rw [hws]; exact (((Below.refl _ _).alloc (Nat.le_refl _) _).alloc (by simp) _).alloc (by simp; omega) _
  have hg0 : ws.heap[w.heap.size]? = some (.cells #[.string L.name, .int .u32 (L.epoch : Int), .int .u32 (L.next : Int), .slice A n c, .int .i64 t, .bool true] 87 (0, 0)) := by
    rw [hws, Below.heap_alloc _ _ _ (by simp; omega), Below.heap_alloc _ _ _ (by simp)]
    exact heap_alloc_new w _
  have hg1 : ws.heap[w.heap.size + 1]? = some (.cells #[.string ⟨#[]⟩, .int .u32 0, .int .u32 0, .slice none 0 0] 49 (0, 0)) := by
    rw [hws, Below.heap_alloc _ _ _ (by simp)]
    have := heap_alloc_new (w.alloc (.cells #[.string L.name, .int .u32 (L.epoch : Int), .int .u32 (L.next : Int), .slice A n c, .int .i64 t, .bool true] 87)) (.cells #[.string ⟨#[]⟩, .int .u32 0, .int .u32 0, .slice none 0 0] 49)
    rwa [World.size_alloc] at this
  have hg2 : ws.heap[w.heap.size + 1 + 1]? = some (.cells #[.string L.name, .int .u32 (L.epoch : Int), .int .u32 (L.next : Int), .slice none 0 0] 49 (0, 0)) := by
    rw [hws]
    have := heap_alloc_new ((w.alloc (.cells #[.string L.name, .int .u32 (L.epoch : Int), .int .u32 (L.next : Int), .slice A n c, .int .i64 t, .bool true] 87)).alloc (.cells #[.string ⟨#[]⟩, .int .u32 0, .int .u32 0, .slice none 0 0] 49)) (.cells #[.string L.name, .int .u32 (L.epoch : Int), .int .u32 (L.next : Int), .slice none 0 0] 49)
    rwa [World.size_alloc, World.size_alloc] at this
  have HR := Lib.hid hr
  have HX := Lib.hid hx
  have HO := Lib.hid hoct
  have HLX : Hid (L.live.length = n) := by show _ = _; rw [← hx.length]; exact hr.len
  have HM0 : Hid (BoxM ws (w.heap.size + 3) (w.heap.size + 1 + 1) none 0 0 [] L.name L.epoch L.next []) := ⟨hg2, RowO.nil _ _ _ _, trivial, by omega⟩
  have HG0 := Lib.hid hg0
  have HG1 := Lib.hid hg1
  have HBS := Lib.hid hbs
  have HWS := Lib.hid hws
  clear hr hx hoct hg0 hg1 hg2 hbs hws
  go_enter Tryz.func88, Tryz.ntmps88
  go_wp2_with fail
  rw [← HWS.out]
  go_loopw [18] (fun v18 wr => ∃ (i : Nat) (A' : Option Addr) (c' : Nat) (vs' : List (List Value)), i ≤ n ∧ v18 = .int .i64 (i : Int) ∧ BoxM wr (w.heap.size + 3) (w.heap.size + 1 + 1) A' i c' vs' L.name L.epoch L.next ((L.live.take i).map (·.msg)) ∧ Below (w.heap.size + 1 + 1) ws wr) (fun v18 _ => n - (intOf v18).toNat)
  case atStart => exact ⟨0, none, 0, [], Nat.zero_le _, rfl, HM0.out, Below.refl _ _⟩
  case round =>
    obtain ⟨i, A', c', vs', hi, rfl, hm, hb⟩ := hrel
    have HM := Lib.hid hm
    have HB := Lib.hid hb
    have HBW : Hid (Below w.heap.size w wr) := HBS.out.trans (hb.mono (by omega))
    clear hm hb
    by_cases hlt : i < n
    · obtain ⟨gA, v, rfl, hv, hvl, hc⟩ := HR.out.at_ hlt
      obtain ⟨x, hxi, B, m, d, rfl, hrb, hmd⟩ := HX.out.left hv
      obtain ⟨d224, hu, hd⟩ := rowT row224
      have HU := Lib.hid hu
      have HD := Lib.hid hd
      unfold liveCells at hc
      have hcw : wr.rangeAt gA (i * 6) [.int .u32 (x.msg.uid : Int), .int .i64 x.msg.date, .int .i64 x.msg.flags, .slice B m d, .int .u32 (x.epoch : Int), .int .i64 (x.at_ : Int)] := fun j u hu => cell_later HBW.out (hc j u hu)
      have HC := Lib.hid hcw
      have HXI := Lib.hid hxi
      have HRB := Lib.hid (hrb.below HBW.out)
      have HOX : Hid (m ≤ 10000000) := by show m ≤ _; rw [← hrb.1]; exact HO.out x (List.mem_of_getElem? hxi)
      clear hv hvl hc hxi hrb hu hd hcw
      obtain ⟨wa, hwa⟩ : ∃ wa, wa = (wr.alloc (.cells #[.int .u32 (x.msg.uid : Int), .int .i64 x.msg.date, .int .i64 x.msg.flags, .slice B m d, .int .u32 (x.epoch : Int), .int .i64 (x.at_ : Int)] 224)).alloc (.cells #[.int .u32 (x.msg.uid : Int), .int .i64 x.msg.date, .int .i64 x.msg.flags, .slice B m d] 37) := ⟨_, rfl⟩
      have hba : Below wr.heap.size wr wa := by rw [hwa]; exact ((Below.refl _ _).alloc (Nat.le_refl _) _).alloc (by simp) _
      have hga : wa.heap[wr.heap.size + 1]? = some (.cells #[.int .u32 (x.msg.uid : Int), .int .i64 x.msg.date, .int .i64 x.msg.flags, .slice B m d] 37 (0, 0)) := by
        rw [hwa]
        have := heap_alloc_new (wr.alloc (.cells #[.int .u32 (x.msg.uid : Int), .int .i64 x.msg.date, .int .i64 x.msg.flags, .slice B m d, .int .u32 (x.epoch : Int), .int .i64 (x.at_ : Int)] 224)) (.cells #[.int .u32 (x.msg.uid : Int), .int .i64 x.msg.date, .int .i64 x.msg.flags, .slice B m d] 37)
        rwa [World.size_alloc] at this
      have HBA := Lib.hid hba
      have HGA := Lib.hid hga
      have HWA := Lib.hid hwa
      clear hba hga hwa
      go_wp2_with (refine wpList_load_mid rfl 224 (.tmp 20) rfl gA (i * 6) rfl _ d224 HC.out HU.out HD.out size224 ?_)
      rw [← HWA.out]
      refine (sclone B m d x.msg.oct wa (HRB.out.below HBA.out) HOX.out).mono ?_
      rintro e w2 ⟨Ac, cc, rfl, hown, hb2⟩
      have HB2 := Lib.hid hb2
      have hga2 := (hb2.block _ (Array.getElem?_eq_some_iff.1 HGA.out).1).trans HGA.out
      have HGA2 := Lib.hid hga2
      have HOWN := Lib.hid hown
      have hM2 := (HM.out.below HBA.out).below hb2
      have HM2 := Lib.hid hM2
      have a0 : w2.cell? ⟨wr.heap.size + 1, 0, none⟩ = some (.int .u32 (x.msg.uid : Int)) := cell_of_row w2 _ 0 _ _ _ HGA2.out
      have a1 : w2.cell? ⟨wr.heap.size + 1, 1, none⟩ = some (.int .i64 x.msg.date) := cell_of_row w2 _ 1 _ _ _ HGA2.out
      have a2 : w2.cell? ⟨wr.heap.size + 1, 2, none⟩ = some (.int .i64 x.msg.flags) := cell_of_row w2 _ 2 _ _ _ HGA2.out
      have a3 : w2.cell? ⟨wr.heap.size + 1, 3, none⟩ = some (.slice B m d) := cell_of_row w2 _ 3 _ _ _ HGA2.out
      have af : ∀ j, w2.frozen? ⟨wr.heap.size + 1, j, none⟩ = false := fun j => by simp [World.frozen?, HGA2.out]
      obtain ⟨w3, hw3⟩ : ∃ w3, w3 = w2.setCell ⟨wr.heap.size + 1, 3, none⟩ (.slice Ac m cc) := ⟨_, rfl⟩
      have ho3 : Only (fun b => b = wr.heap.size + 1) w2 w3 := by rw [hw3]; exact (Only.refl (fun b => b = wr.heap.size + 1) w2).setCell (p := ⟨wr.heap.size + 1, 3, none⟩) (.inl rfl) _
      have hg3 : w3.heap[wr.heap.size + 1]? = some (.cells #[.int .u32 (x.msg.uid : Int), .int .i64 x.msg.date, .int .i64 x.msg.flags, .slice Ac m cc] 37 (0, 0)) := by rw [hw3]; exact blk_set HGA2.out 3 _
      have hnb : NoB w2 (wr.heap.size + 1) := NoB.cells HGA2.out (fun j x e => by
        rw [List.getElem?_toArray] at e
        rcases j with _ | _ | _ | _ | j <;> simp at e)
      have hltM : w.heap.size + 1 + 1 < wr.heap.size := (Array.getElem?_eq_some_iff.1 HM.out.blk).1
      have hrowlt := HM.out.row.lt
      have hM3 : BoxM w3 (w.heap.size + 3) (w.heap.size + 1 + 1) A' i c' vs' L.name L.epoch L.next ((L.live.take i).map (·.msg)) :=
        ⟨ho3.heap hM2.blk (by omega), hM2.row.only ho3 (fun q hq e => by have := (hrowlt q hq).2; omega), hM2.all.mono (by
          rintro v y ⟨B', m', d', h1, h2, h3, h4⟩
          exact ⟨B', m', d', h1, h2.keep ho3 (fun b hb => hb ▸ hnb), h3, h4⟩), hM2.lt⟩
      have hrb3 : RB w3 Ac m x.msg.oct := hown.read.keep ho3 (fun b hb => hb ▸ hnb)
      have hap : 0 < m → ∀ q, blk Ac = some q → blk A' ≠ some q := fun h0 q hq e => by
        have h1 := (hown.lt q hq).1
        have h2 := (hrowlt q e).2
        have h3 := HBA.out.size
        omega
      have HM3 := Lib.hid hM3
      have HRB3 := Lib.hid hrb3
      have HAP := Lib.hid hap
      have HW3 := Lib.hid hw3
      have HMC : Hid (m ≤ cc) := hown.le
      have HB3 : Hid (Below (w.heap.size + 1 + 1) ws w3) := ((HB.out.trans (HBA.out.mono (by omega))).trans (hb2.mono (by have := HBA.out.size; omega))).trans (ho3.below (by have := HBA.out.size; have := hb2.size; omega) (fun b hb e => by omega))
      have b0 : w3.cell? ⟨wr.heap.size + 1, 0, none⟩ = some (.int .u32 (x.msg.uid : Int)) := cell_of_row w3 _ 0 _ _ _ hg3
      have b1 : w3.cell? ⟨wr.heap.size + 1, 1, none⟩ = some (.int .i64 x.msg.date) := cell_of_row w3 _ 1 _ _ _ hg3
      have b2 : w3.cell? ⟨wr.heap.size + 1, 2, none⟩ = some (.int .i64 x.msg.flags) := cell_of_row w3 _ 2 _ _ _ hg3
      have b3 : w3.cell? ⟨wr.heap.size + 1, 3, none⟩ = some (.slice Ac m cc) := cell_of_row w3 _ 3 _ _ _ hg3
      have k3 : w3.cell? ⟨w.heap.size + 1 + 1, 3, none⟩ = some (.slice A' i c') := cell_of_row w3 _ 3 _ _ _ hM3.blk
      have hbase : w.heap.size + 3 ≤ w3.heap.size := by have := ho3.size; have := hb2.size; have := HBA.out.size; omega
      clear hw3 ho3 hg3 hnb hM3 hrb3 hap hM2 hga2 hown hb2
      go_upto_region 7 with fail
      rw [← HW3.out]
      clear a0 a1 a2 a3 af
      go_wp2_with (at_builtin; refine wp_append_row rfl (.tmp 29) (.tmp 31) 47 37 4 _ 48 und47 inf37 rfl (by decide) (by decide) rfl rfl rfl (HM3.out.row.below ((Below.refl _ _).alloc (Nat.le_refl _) _)) (range_new w3 (msgCells x.msg (.slice Ac m cc)) 37) rfl (by simp [msgCells, Value.oneCell']) (by omega) (by simp; omega) ?_; intro A5 c5 w5 hro5 ho5 hbk5; have HRO5 := Lib.hid hro5; have HO5 := Lib.hid ho5; have HBK5 := Lib.hid hbk5; have hg5 := ho5.heap (((Below.refl w3.heap.size w3).alloc (Nat.le_refl _) _).block _ (Array.getElem?_eq_some_iff.1 HM3.out.blk).1 |>.trans HM3.out.blk) HM3.out.ne; have HG5 := Lib.hid hg5; have m3 : w5.cell? ⟨w.heap.size + 1 + 1, 3, none⟩ = some (.slice A' i c') := cell_of_row w5 _ 3 _ _ _ HG5.out; have mf : ∀ j, w5.frozen? ⟨w.heap.size + 1 + 1, j, none⟩ = false := (fun j => by simp [World.frozen?, HG5.out]); clear hro5 ho5 hbk5 hg5)
      obtain ⟨k1, k2⟩ := box_more (x := x.msg) HM3.out HRB3.out HMC.out HAP.out (w4 := w3.alloc (.cells #[.int .u32 (x.msg.uid : Int), .int .i64 x.msg.date, .int .i64 x.msg.flags, .slice Ac m cc] 37)) ((Below.refl _ _).alloc (Nat.le_refl _) _) HRO5.out HO5.out HBK5.out
      refine ⟨⟨i + 1, A5, c5, vs' ++ [msgCells x.msg (.slice Ac m cc)], hlt, by first | rfl | (congr 1), ?_, HB3.out.trans (k2.below (by omega) (fun b hb e => ?_))⟩, by simp [intOf]; omega⟩
      · obtain ⟨hi', hx'⟩ := List.getElem?_eq_some_iff.1 HXI.out
        rw [List.take_succ_eq_append_getElem hi', List.map_append, hx']
        exact k1
      · rcases e with e | e
        · omega
        · have := (HM3.out.row.lt b e).1
          omega
    · obtain rfl : i = n := by omega
      have hltM : w.heap.size + 1 + 1 < wr.heap.size := (Array.getElem?_eq_some_iff.1 HM.out.blk).1
      have r0 := (HB.out.block w.heap.size (by omega)).trans HG0.out
      have r1 := (HB.out.block (w.heap.size + 1) (by omega)).trans HG1.out
      have HR0 := Lib.hid r0
      have HR1 := Lib.hid r1
      have hg := HM.out.blk
      unfold boxCells at hg
      have HG := Lib.hid hg
      clear r0 r1 hg
      have g5 : wr.cell? ⟨w.heap.size, 5, none⟩ = some (.bool true) := cell_of_row wr _ 5 _ _ _ HR0.out
      have g0 : wr.cell? ⟨w.heap.size + 1 + 1, 0, none⟩ = some (.string L.name) := cell_of_row wr _ 0 _ _ _ HG.out
      have g1 : wr.cell? ⟨w.heap.size + 1 + 1, 1, none⟩ = some (.int .u32 (L.epoch : Int)) := cell_of_row wr _ 1 _ _ _ HG.out
      have g2 : wr.cell? ⟨w.heap.size + 1 + 1, 2, none⟩ = some (.int .u32 (L.next : Int)) := cell_of_row wr _ 2 _ _ _ HG.out
      have g3 : wr.cell? ⟨w.heap.size + 1 + 1, 3, none⟩ = some (.slice A' i c') := cell_of_row wr _ 3 _ _ _ HG.out
      have r0 := cell_of_row wr _ 0 _ _ _ HR1.out
      have r1 := cell_of_row wr _ 1 _ _ _ HR1.out
      have r2 := cell_of_row wr _ 2 _ _ _ HR1.out
      have r3 := cell_of_row wr _ 3 _ _ _ HR1.out
      have rf : ∀ j, wr.frozen? ⟨w.heap.size + 1, j, none⟩ = false := fun j => by simp [World.frozen?, HR1.out]
      go_wp2_with fail
      obtain ⟨w5, hw5⟩ : ∃ w5, w5 = ((((wr.setCell ⟨w.heap.size + 1, 0, none⟩ (.string L.name)).setCell ⟨w.heap.size + 1, 1, none⟩ (.int .u32 (L.epoch : Int))).setCell ⟨w.heap.size + 1, 2, none⟩ (.int .u32 (L.next : Int))).setCell ⟨w.heap.size + 1, 3, none⟩ (.slice A' i c')) := ⟨_, rfl⟩
      rw [← hw5]
      have ho5 : Only (fun b => b = w.heap.size + 1) wr w5 := by
        rw [hw5]
        exact ((((Only.refl (fun b => b = w.heap.size + 1) wr).setCell (p := ⟨w.heap.size + 1, 0, none⟩) (.inl rfl) _).setCell (p := ⟨w.heap.size + 1, 1, none⟩) (.inl rfl) _).setCell (p := ⟨w.heap.size + 1, 2, none⟩) (.inl rfl) _).setCell (p := ⟨w.heap.size + 1, 3, none⟩) (.inl rfl) _
      have hH5 : w5.heap[w.heap.size + 1]? = some (.cells (boxCells L.name L.epoch L.next (.slice A' i c')).toArray 49 (0, 0)) := by
        rw [hw5]
        exact blk_set (blk_set (blk_set (blk_set HR1.out 0 _) 1 _) 2 _) 3 _
      have hnb : NoB wr (w.heap.size + 1) := NoB.cells HR1.out (fun j x e => by
        rw [List.getElem?_toArray] at e
        rcases j with _ | _ | _ | _ | j <;> simp at e)
      have hm := HM.out
      rw [List.take_of_length_le (by rw [HLX.out]; exact Nat.le_refl _)] at hm
      have hrow5 : RowO w5 w.heap.size 37 4 A' i c' vs' := (hm.row.only ho5 (fun q hq e => by have := (hm.row.lt q hq).1; omega)).more (fun q hq => by have := (hm.row.lt q hq).1; omega)
      have hall5 : All2 (MsgA w5 A') vs' (L.live.map (·.msg)) := hm.all.mono (by
        rintro v y ⟨B', m', d', h1, h2, h3, h4⟩
        exact ⟨B', m', d', h1, h2.keep ho5 (fun b hb => hb ▸ hnb), h3, h4⟩)
      have hb5 : Below w.heap.size w w5 := (HBS.out.trans (HB.out.mono (by omega))).trans (ho5.below (by omega) (fun b hb e => by omega))
      have HH5 := Lib.hid hH5
      try simp only [Exit.inBlock, Exit.then]
      refine bodyPost_ret (results_cell_row' rfl _ _ (w.heap.size + 1) 49 _ (0, 0) rfl HH5.out row49 size49) rfl ?_
      exact ⟨A', i, c', vs', rfl, hrow5, hall5, hb5⟩
end Go.Proofs.YtlhaempecidohaaGreatDoor
namespace Go.Proofs.YtlhaempecidohaaGreatDoor
open Go.RowKit
theorem flat_put {k : Nat} : ∀ {vs : List (List Value)}, (∀ u ∈ vs, u.length = k) → ∀ {i j : Nat} {v : List Value} {u : Value}, vs[i]? = some v → j < k → (vs.set i (v.set j u)).flatten = vs.flatten.set (i * k + j) u
  | [], _, i, j, v, u, h, _ => by simp at h
  | x :: vs, hl, 0, j, v, u, h, hj => by
    have hx : x.length = k := hl x (by simp)
    simp only [List.getElem?_cons_zero, Option.some.injEq] at h
    subst h
    rw [List.set_cons_zero, List.flatten_cons, List.flatten_cons, Nat.zero_mul, Nat.zero_add, List.set_append_left _ _ (by omega)]
  | x :: vs, hl, i + 1, j, v, u, h, hj => by
    have hx : x.length = k := hl x (by simp)
    rw [List.getElem?_cons_succ] at h
    have ih := flat_put (fun y hy => hl y (by simp [hy])) h hj (u := u)
    have e : (i + 1) * k + j = k + (i * k + j) := by rw [Nat.add_mul]; omega
    rw [List.set_cons_succ, List.flatten_cons, List.flatten_cons, ih, e, List.set_append_right _ _ (by omega), hx, Nat.add_sub_cancel_left]
/-- one cell of one struct of an own row -/
theorem RowO.put1 {w : World} {base : Nat} {T : TypeId} {k g n c : Nat} {vs : List (List Value)} (h : RowO w base T k (some ⟨g, 0, none⟩) n c vs) {i j : Nat} {v : List Value} (hv : vs[i]? = some v) (hj : j < k) (u : Value) :
    RowO (w.setCell ⟨g, i * k + j, none⟩ u) base T k (some ⟨g, 0, none⟩) n c (vs.set i (v.set j u)) ∧ Only (fun b => b = g) w (w.setCell ⟨g, i * k + j, none⟩ u) := by
  have hi : i < n := by rw [← h.len]; exact (List.getElem?_eq_some_iff.1 hv).1
  have hvl := h.each v (List.mem_of_getElem? hv)
  have hm : i * k + k ≤ n * k := by rw [← Nat.succ_mul]; exact Nat.mul_le_mul_right k hi
  have heach : ∀ y ∈ vs.set i (v.set j u), y.length = k := fun y hy => by
    rcases List.mem_or_eq_of_mem_set hy with hy | hy
    · exact h.each y hy
    · rw [hy, List.length_set]; exact hvl
  have ho : Only (fun b => b = g) w (w.setCell ⟨g, i * k + j, none⟩ u) := (Only.refl (fun b => b = g) w).setCell (p := ⟨g, i * k + j, none⟩) (.inl rfl) _
  refine ⟨⟨by rw [List.length_set, h.len], heach, ?_, .inr ?_⟩, ho⟩
  · rw [flat_len' heach, List.length_set, h.len]
  · rcases h.own.2 with ⟨hv', _⟩ | ⟨g', cap, cur, hv', hb, hh, hle, hm', hs, ht⟩
    · cases hv'
    · injection hv' with hA _ hc
      injection hA with hA
      injection hA with hA
      subst hA hc
      refine ⟨g, c, cur.setIfInBounds (i * k + j) u, rfl, hb, blk_set hh (i * k + j) u, hle, hm', by rw [Array.size_setIfInBounds]; exact hs, ?_⟩
      rw [flat_put h.each hv hj, ← ht, Array.toList_setIfInBounds, List.take_set]
theorem RowO.neb {w : World} {b : Nat} {T T' : TypeId} {k : Nat} {A : Option Addr} {n c g : Nat} {vs : List (List Value)} {cs : Array Value} (h : RowO w b T k A n c vs) (hg : w.heap[g]? = some (.cells cs T' (0, 0))) (hT : T ≠ T') : blk A ≠ some g := fun e => by
  rcases h.own.2 with ⟨hv, -⟩ | ⟨g', cap, cur, hv, -, hh, -⟩
  · injection hv with hA
    rw [hA] at e
    cases e
  · injection hv with hA
    rw [hA] at e
    injection e with e
    have e : g' = g := e
    rw [← e, hh] at hg
    injection hg with hg
    injection hg with _ hg
    exact hT hg
theorem RowO.frozen {w : World} {base : Nat} {T : TypeId} {k g n c : Nat} {vs : List (List Value)} (h : RowO w base T k (some ⟨g, 0, none⟩) n c vs) (j : Nat) : w.frozen? ⟨g, j, none⟩ = false := by
  obtain ⟨cur, hh, -⟩ := h.block
  simp [World.frozen?, hh]
theorem RowR.flat {w : World} {g n k : Nat} {vs : List (List Value)} (h : RowR w (some ⟨g, 0, none⟩) n k vs) (hk : 0 < k) : ∀ j u, vs.flatten[j]? = some u → w.cell? ⟨g, j, none⟩ = some u := by
  intro j u hj
  have hjl := (List.getElem?_eq_some_iff.1 hj).1
  rw [flat_len' h.each, h.len] at hjl
  have hi : j / k < n := Nat.div_lt_of_lt_mul (by rwa [Nat.mul_comm] at hjl)
  obtain ⟨g', v, hg, hv, hl, hc⟩ := h.at_ hi
  injection hg with hg
  injection hg with hg
  subst hg
  have hr : j % k < v.length := by rw [hl]; exact Nat.mod_lt _ hk
  have e := hc (j % k) _ (List.getElem?_eq_getElem hr)
  have e2 := flat_get h.each hv (List.getElem?_eq_getElem hr)
  have ej : j / k * k + j % k = j := by rw [Nat.mul_comm]; exact Nat.div_add_mod j k
  rw [ej] at e e2
  rw [e, ← e2, hj]
/-! ### slices.Clone of messages -/
def RowC (w : World) (n : Nat) (vs : List (List Value)) (e : Ending) (w' : World) : Prop :=
  ∃ A' c', e = .returned (.slice A' n c') ∧ RowO w' w.heap.size 37 4 A' n c' vs ∧ Below w.heap.size w w'
set_option maxRecDepth 8000 in
set_option maxHeartbeats 400000 in
theorem mclone (A : Option Addr) (n c : Nat) (vs : List (List Value)) (w : World) (h : RowR w A n 4 vs) (hn : n ≤ 10000000) (h1 : ∀ v ∈ vs, ∀ u ∈ v, u.oneCell' = true) :
    Calls Tryz.prog 188 #[.slice A n c] w (RowC w n vs) := by
  have q := fun (w : World) (a : Option Addr) (n c : Nat) => Lib.run_eql_slice_nil (P := Tryz.prog) w 47 37 a n c 0 0 und47
  rcases A with _ | ad
  · have h0 : n = 0 := by
      rcases Nat.eq_zero_or_pos n with h0 | h0
      · exact h0
      · obtain ⟨g, e, _⟩ := h.cells h0
        cases e
    subst h0
    obtain rfl : vs = [] := List.eq_nil_of_length_eq_zero h.len
    go_enter Tryz.func188, Tryz.ntmps188
    go_wp2
    go_ret
    exact ⟨none, 0, rfl, RowO.nil _ _ _ _, Below.refl _ _⟩
  · have hown : (w.alloc (.cells #[] 37)).ownsRow w.heap.size 37 4 (.slice (some ⟨w.heap.size, 0, none⟩) 0 0) 0 [] := World.ownsRow_made w #[] 0 (Nat.le_refl _) (Nat.zero_le _) (by simp)
    have hnews : ∀ j u, vs.flatten[j]? = some u → (w.alloc (.cells #[] 37)).cell? (ad.add j) = some u := by
      intro j u hj
      have hjl := (List.getElem?_eq_some_iff.1 hj).1
      rw [flat_len' h.each, h.len] at hjl
      have h0 : 0 < n := by omega
      obtain ⟨g, e, _⟩ := h.cells h0
      injection e with e
      subst e
      rw [Addr.add_mid, Nat.zero_add]
      exact cell_later ((Below.refl _ _).alloc (Nat.le_refl _) _) (h.flat (by omega) j u hj)
    have hlen : vs.flatten.length = n * 4 := by rw [flat_len' h.each, h.len]
    have hone : ∀ u ∈ vs.flatten, u.oneCell' = true := fun u hu => by
      obtain ⟨v, hv, hu⟩ := List.mem_flatten.1 hu
      exact h1 v hv u hu
    obtain ⟨i, hi, hz0, hz1, hz2⟩ := info_parts inf37
    have H := Lib.hid h
    have HO := Lib.hid hown
    have HN := Lib.hid hnews
    have HL := Lib.hid hlen
    have HI := Lib.hid hone
    clear h hown hnews hlen hone h1
    go_enter Tryz.func188, Tryz.ntmps188
    go_wp2_with (at_builtin; go_loud (refine wpList_append_own_at _ rfl _ _ 47 rfl w.heap.size 37 i _ 4 48 und47 hi hz0 hz1 hz2 rfl (by omega) _ 0 [] rfl HO.out ad n c vs.flatten rfl HL.out HN.out HI.out (by unfold maxLen; omega) (by omega) (by simp) ?_; intro v' w1 hown1 hgrow hnil hblk))
    rw [Nat.zero_add, List.nil_append] at hown1
    have hex : ∃ A' c', v' = .slice A' n c' := by
      rcases hown1.2 with ⟨hv, h0⟩ | ⟨g, cap, cur, hv, _⟩
      · exact ⟨none, 0, by rw [hv, h0]⟩
      · exact ⟨_, _, hv⟩
    obtain ⟨A', c', rfl⟩ := hex
    go_ret
    refine ⟨A', c', rfl, ⟨H.out.len, H.out.each, hown1⟩, ?_⟩
    exact ((Below.refl _ w).alloc (Nat.le_refl _) _).grown hgrow (by simp) (by intro k hk; have hk : (Value.slice (some ⟨w.heap.size, 0, none⟩) 0 0).ownBlock = some k := hk; rw [ownBlock_slice] at hk; simp [blk] at hk; omega)
/-! ### mail.clone -/
/-- a message in a row, read -/
def MsgR (w : World) (v : List Value) (x : Msg) : Prop := ∃ B m d, v = msgCells x (.slice B m d) ∧ RB w B m x.oct ∧ m ≤ d
theorem MsgA.r {w : World} {A : Option Addr} (v : List Value) (x : Msg) (h : MsgA w A v x) : MsgR w v x := by
  obtain ⟨B, m, d, h1, h2, h3, -⟩ := h
  exact ⟨B, m, d, h1, h2, h3⟩
theorem MsgR.below {w w' : World} (hb : Below w.heap.size w w') (v : List Value) (x : Msg) (h : MsgR w v x) : MsgR w' v x := by
  obtain ⟨B, m, d, h1, h2, h3⟩ := h
  exact ⟨B, m, d, h1, h2.below hb, h3⟩
theorem MsgA.below {w w' : World} {A : Option Addr} (hb : Below w.heap.size w w') (v : List Value) (x : Msg) (h : MsgA w A v x) : MsgA w' A v x := by
  obtain ⟨B, m, d, h1, h2, h3, h4⟩ := h
  exact ⟨B, m, d, h1, h2.below hb, h3, h4⟩
theorem MsgA.only {S : Nat → Prop} {w w' : World} {A : Option Addr} (ho : Only S w w') (hs : ∀ q, S q → blk A = some q) (v : List Value) (x : Msg) (h : MsgA w A v x) : MsgA w' A v x := by
  obtain ⟨B, m, d, h1, h2, h3, h4⟩ := h
  exact ⟨B, m, d, h1, h2.only0 ho (fun h0 q hq hS => h4 h0 q hq (hs q hS)), h3, h4⟩
theorem MsgR.a {w : World} {A : Option Addr} (hA : ∀ q, blk A = some q → w.heap.size ≤ q) (v : List Value) (x : Msg) (h : MsgR w v x) : MsgA w A v x := by
  obtain ⟨B, m, d, h1, h2, h3⟩ := h
  exact ⟨B, m, d, h1, h2, h3, fun h0 q hq e => by have := h2.lt h0 q hq; have := hA q e; omega⟩
theorem MsgR.one {w : World} {vs : List (List Value)} {ms : List Msg} (h : All2 (MsgR w) vs ms) : ∀ v ∈ vs, ∀ u ∈ v, u.oneCell' = true := by
  intro v hv u hu
  obtain ⟨i, hi⟩ := List.mem_iff_getElem?.1 hv
  obtain ⟨x, -, B, m, d, rfl, -, -⟩ := h.left hi
  unfold msgCells at hu
  simp only [List.mem_cons, List.not_mem_nil, or_false] at hu
  rcases hu with rfl | rfl | rfl | rfl <;> rfl
theorem set_same {α : Type} {l : List α} {i : Nat} {x : α} (h : l[i]? = some x) : l.set i x = l := by
  obtain ⟨hi, hx⟩ := List.getElem?_eq_some_iff.1 h
  rw [← hx, List.set_getElem_self]
theorem BoxM.drew {w : World} {base g n c : Nat} {A : Option Addr} {vs : List (List Value)} {nm : ByteArray} {ep nx : Nat} {ms : List Msg} (h : BoxM w base g A n c vs nm ep nx ms) : BoxM w.drew base g A n c vs nm ep nx ms :=
  ⟨h.blk, h.row.only (Only.refl (fun _ => False) w).drew (fun _ _ h => h), h.all.mono (fun _ _ h => h), h.lt⟩
/-- one message's octets are new -/
theorem box_oct {w w5 : World} {base g n c i m d5 g' : Nat} {B5 : Option Addr} {vs : List (List Value)} {nm : ByteArray} {ep nx : Nat} {ms : List Msg} {x : Msg} {o : Value}
    (h : BoxM w base g (some ⟨g', 0, none⟩) n c vs nm ep nx ms) (hv : vs[i]? = some (msgCells x o)) (hx : ms[i]? = some x) (hb5 : Below w.heap.size w w5) (hr : RB w5 B5 m x.oct) (hmd : m ≤ d5) (hn5 : ∀ q, blk B5 = some q → w.heap.size ≤ q) :
    BoxM (w5.setCell ⟨g', i * 4 + 3, none⟩ (.slice B5 m d5)) base g (some ⟨g', 0, none⟩) n c (vs.set i (msgCells x (.slice B5 m d5))) nm ep nx ms ∧ Only (fun b => b = g') w (w5.setCell ⟨g', i * 4 + 3, none⟩ (.slice B5 m d5)) := by
  have hg' := h.row.lt g' rfl
  have h5 := h.below hb5
  obtain ⟨p1, p2⟩ := h5.row.put1 hv (j := 3) (by omega) (.slice B5 m d5)
  refine ⟨⟨p2.heap h5.blk (fun e => h.ne (by rw [e]; rfl)), p1, ?_, h.lt⟩, (Only.of_below hb5 _).trans p2 (fun _ _ h => h)⟩
  have ha := h5.all.mono (MsgA.only p2 (fun q hq => by rw [hq]; rfl))
  have hnew : MsgA (w5.setCell ⟨g', i * 4 + 3, none⟩ (.slice B5 m d5)) (some ⟨g', 0, none⟩) (msgCells x (.slice B5 m d5)) x := by
    refine ⟨B5, m, d5, rfl, hr.only p2 (fun q hq e => by have := hn5 q hq; omega), hmd, fun _ q hq e => ?_⟩
    have := hn5 q hq
    injection e with e
    have e : g' = q := e
    omega
  have := ha.set i hnew
  rwa [set_same hx] at this
/-- octets that lie from block base on -/
def FrV (base : Nat) (v : List Value) : Prop := ∃ x B m d, v = msgCells x (.slice B m d) ∧ ∀ q, blk B = some q → base ≤ q
/-- what clone hands back -/
def CloE (w : World) (nm : ByteArray) (ep nx : Nat) (ms : List Msg) (e : Ending) (w' : World) : Prop :=
  ∃ A n c vs, e = .returned (.agg (boxCells nm ep nx (.slice A n c)).toArray) ∧ RowO w' w.heap.size 37 4 A n c vs ∧ All2 (MsgA w' A) vs ms ∧ Below w.heap.size w w' ∧ ∀ v ∈ vs, FrV w.heap.size v
set_option maxRecDepth 8000 in
set_option maxHeartbeats 3000000 in
theorem clone_any (nm : ByteArray) (ep nx : Nat) (A : Option Addr) (n c : Nat) (vs : List (List Value)) (ms : List Msg) (w : World) (hr : RowR w A n 4 vs) (hx : All2 (MsgR w) vs ms) (hn : n ≤ 10000000) (hoct : ∀ x ∈ ms, x.oct.length ≤ 10000000) :
    Calls Tryz.prog 126 #[.agg (boxCells nm ep nx (.slice A n c)).toArray] w (CloE w nm ep nx ms) := by
  unfold boxCells
  obtain ⟨ws, hws⟩ : ∃ ws, ws = (w.alloc (.cells #[.string nm, .int .u32 (ep : Int), .int .u32 (nx : Int), .slice A n c] 49)).alloc (.cells #[.string ⟨#[]⟩, .int .u32 0, .int .u32 0, .slice none 0 0] 49) := ⟨_, rfl⟩
  have hss : ws.heap.size = w.heap.size + 2 := by rw [hws]; simp
  have hbs : Below w.heap.size w ws := by rw [hws]; exact ((Below.refl _ _).alloc (Nat.le_refl _) _).alloc (by simp) _
  have hg0 : ws.heap[w.heap.size]? = some (.cells #[.string nm, .int .u32 (ep : Int), .int .u32 (nx : Int), .slice A n c] 49 (0, 0)) := by
    rw [hws, Below.heap_alloc _ _ _ (by simp)]
    exact heap_alloc_new w _
  have hg1 : ws.heap[w.heap.size + 1]? = some (.cells #[.string ⟨#[]⟩, .int .u32 0, .int .u32 0, .slice none 0 0] 49 (0, 0)) := by
    rw [hws]
    have := heap_alloc_new (w.alloc (.cells #[.string nm, .int .u32 (ep : Int), .int .u32 (nx : Int), .slice A n c] 49)) (.cells #[.string ⟨#[]⟩, .int .u32 0, .int .u32 0, .slice none 0 0] 49)
    rwa [World.size_alloc] at this
  have c3 : ws.cell? ⟨w.heap.size, 3, none⟩ = some (.slice A n c) := cell_of_row ws _ 3 _ _ _ hg0
  have hC := mclone A n c vs ws (hr.below hbs) hn (MsgR.one hx)
  have hxs : All2 (MsgR ws) vs ms := hx.mono (MsgR.below hbs)
  have HOC := Lib.hid hoct
  have HC := Lib.hid hC
  have HX := Lib.hid hxs
  have HG0 := Lib.hid hg0
  have HG1 := Lib.hid hg1
  have HBS := Lib.hid hbs
  have HWS := Lib.hid hws
  have HSS := Lib.hid hss
  clear hr hx hoct hC hxs hg0 hg1 hbs hws hss
  go_enter Tryz.func126, Tryz.ntmps126
  go_upto_region 1 with fail
  rw [← HWS.out]
  go_wp2_with fail
  refine HC.out.mono ?_
  rintro e w1 ⟨A', c', rfl, hro, hb1⟩
  obtain ⟨w2, hw2⟩ : ∃ w2, w2 = w1.setCell ⟨w.heap.size, 3, none⟩ (.slice A' n c') := ⟨_, rfl⟩
  have hq0 := (hb1.block _ (Array.getElem?_eq_some_iff.1 HG0.out).1).trans HG0.out
  have hq1 := (hb1.block _ (Array.getElem?_eq_some_iff.1 HG1.out).1).trans HG1.out
  have ho2 : Only (fun b => b = w.heap.size) w1 w2 := by rw [hw2]; exact (Only.refl (fun b => b = w.heap.size) w1).setCell (p := ⟨w.heap.size, 3, none⟩) (.inl rfl) _
  have hss := HSS.out
  have hs1 := hb1.size
  have hnw : ∀ q, blk A' = some q → ws.heap.size ≤ q := fun q hq => (hro.lt q hq).1
  have hM2 : BoxM w2 (w.heap.size + 2) w.heap.size A' n c' vs nm ep nx ms := by
    refine ⟨?_, ?_, ?_, by omega⟩
    · rw [hw2]; exact blk_set hq0 3 _
    · exact (hro.only ho2 (fun q hq e => by have := hnw q hq; omega)).more (fun q hq => by have := hnw q hq; omega)
    · refine (HX.out.mono (MsgR.a hnw)).mono (fun v x h => ?_)
      obtain ⟨B, m, d, h1, h2, h3, h4⟩ := MsgA.below hb1 v x h
      refine ⟨B, m, d, h1, ?_, h3, h4⟩
      refine h2.keep ho2 (fun b hb => ?_)
      subst hb
      exact boxNoB (nm := nm) (ep := ep) (nx := nx) (A := A) (n := n) (c := c) hq0
  have hres2 : w2.heap[w.heap.size + 1]? = some (.cells #[.string ⟨#[]⟩, .int .u32 0, .int .u32 0, .slice none 0 0] 49 (0, 0)) := ho2.heap hq1 (by omega)
  have hbw2 : Below w.heap.size w w2 := HBS.out.trans ((hb1.mono (by omega)).trans (ho2.below (by omega) (fun b hb e => by omega)))
  have c3 := cell_later hb1 c3
  have f3 : ∀ j, w1.frozen? ⟨w.heap.size, j, none⟩ = false := fun j => by simp [World.frozen?, hq0]
  have HM2 := Lib.hid hM2
  have HRES2 := Lib.hid hres2
  have HBW2 := Lib.hid hbw2
  have HW2 := Lib.hid hw2
  clear hq0 hq1 ho2 hs1 hss hnw hM2 hres2 hbw2 hro hb1 hw2
  go_upto_region 2 with fail
  rw [← HW2.out]
  have c3 : w2.cell? ⟨w.heap.size, 3, none⟩ = some (.slice A' n c') := by rw [HW2.out]; exact cell_of_row _ _ 3 _ _ _ (by have := HM2.out.blk; rw [HW2.out] at this; exact this)
  clear HW2
  go_wp2_with fail
  clear c3
  go_loopw [11] (fun v11 wr => ∃ (i : Nat) (us : List (List Value)), i ≤ n ∧ v11 = .int .i64 (i : Int) ∧ BoxM wr (w.heap.size + 2) w.heap.size A' n c' us nm ep nx ms ∧ wr.heap[w.heap.size + 1]? = some (.cells #[.string ⟨#[]⟩, .int .u32 0, .int .u32 0, .slice none 0 0] 49 (0, 0)) ∧ Below w.heap.size w wr ∧ ∀ j v, j < i → us[j]? = some v → FrV w.heap.size v) (fun v11 _ => n - (intOf v11).toNat)
  case atStart => exact ⟨0, vs, Nat.zero_le _, rfl, HM2.out, HRES2.out, HBW2.out, fun j v hj => by omega⟩
  case round =>
    obtain ⟨i, us, hi, rfl, hm, hres, hb, hfr⟩ := hrel
    have HFR := Lib.hid hfr
    clear hfr
    have HM := Lib.hid hm
    have HRES := Lib.hid hres
    have HB := Lib.hid hb
    have k3 : wr.cell? ⟨w.heap.size, 3, none⟩ = some (.slice A' n c') := cell_of_row wr _ 3 _ _ _ hm.blk
    clear hm hres hb
    by_cases hlt : i < n
    · obtain ⟨g', v, rfl, hv, hvl, hc⟩ := HM.out.row.read.at_ hlt
      obtain ⟨x, hxi, B, m, d, rfl, hrb, hmd, -⟩ := HM.out.all.left hv
      have r3 : wr.cell? ⟨g', i * 4 + 3, none⟩ = some (.slice B m d) := hc 3 _ rfl
      have hml : m ≤ 10000000 := by rw [← hrb.1]; exact HOC.out x (List.mem_of_getElem? hxi)
      have HRB : Hid (RB wr.drew B m x.oct) := hrb
      have HMD := Lib.hid HM.out.drew
      have k3 : wr.drew.cell? ⟨w.heap.size, 3, none⟩ = some (.slice (some ⟨g', 0, none⟩) n c') := k3
      have r3 : wr.drew.cell? ⟨g', i * 4 + 3, none⟩ = some (.slice B m d) := r3
      have HV := Lib.hid hv
      have HXI := Lib.hid hxi
      clear hv hvl hc hxi hrb
      go_upto_region 5 with fail
      go_region_law (go_simp; go_at_call 26; refine (bclone B m d x.oct _ HRB.out hml).mono ?_; rintro e w5 ⟨B5, d5, rfl, hown5, hb5⟩; have HB5 := Lib.hid hb5; have HO5 := Lib.hid hown5; have k3 := cell_later hb5 k3; have r3 := cell_later hb5 r3; have f3 : ∀ j, w5.frozen? ⟨g', j, none⟩ = false := (HMD.out.row.below hb5).frozen; clear hown5 hb5)
      all_goals
        (try go_wp2_with fail)
        obtain ⟨p1, p2⟩ := box_oct HMD.out HV.out HXI.out HB5.out HO5.out.read HO5.out.le (fun q hq => (HO5.out.lt q hq).1)
        have hgl := HM.out.row.lt g' rfl
        have hz : w.heap.size ≤ wr.drew.heap.size := HB.out.size
        refine ⟨⟨i + 1, _, hlt, by first | rfl | (congr 1), p1, p2.heap HRES.out (by omega), ?_, ?_⟩, by simp [intOf]; omega⟩
        · exact HB.out.drew.trans (p2.below hz (fun b hb e => by omega))
        · intro j v hj hv
          by_cases hji : j = i
          · subst hji
            rw [List.getElem?_set_self (List.getElem?_eq_some_iff.1 HV.out).1] at hv
            injection hv with hv
            exact ⟨x, B5, m, d5, hv.symm, fun q hq => Nat.le_trans hz (HO5.out.lt q hq).1⟩
          · rw [List.getElem?_set_ne (fun e => hji e.symm)] at hv
            exact HFR.out j v (by omega) hv
    · obtain rfl : i = n := by omega
      have k0 : wr.cell? ⟨w.heap.size, 0, none⟩ = some (.string nm) := cell_of_row wr _ 0 _ _ _ HM.out.blk
      have k1 : wr.cell? ⟨w.heap.size, 1, none⟩ = some (.int .u32 (ep : Int)) := cell_of_row wr _ 1 _ _ _ HM.out.blk
      have k2 : wr.cell? ⟨w.heap.size, 2, none⟩ = some (.int .u32 (nx : Int)) := cell_of_row wr _ 2 _ _ _ HM.out.blk
      have r0 := cell_of_row wr _ 0 _ _ _ HRES.out
      have r1 := cell_of_row wr _ 1 _ _ _ HRES.out
      have r2 := cell_of_row wr _ 2 _ _ _ HRES.out
      have r3 := cell_of_row wr _ 3 _ _ _ HRES.out
      have rf : ∀ j, wr.frozen? ⟨w.heap.size + 1, j, none⟩ = false := fun j => by simp [World.frozen?, HRES.out]
      go_wp2_with fail
      obtain ⟨w7, hw7⟩ : ∃ w7, w7 = (((wr.setCell ⟨w.heap.size + 1, 0, none⟩ (.string nm)).setCell ⟨w.heap.size + 1, 1, none⟩ (.int .u32 (ep : Int))).setCell ⟨w.heap.size + 1, 2, none⟩ (.int .u32 (nx : Int))).setCell ⟨w.heap.size + 1, 3, none⟩ (.slice A' i c') := ⟨_, rfl⟩
      have ho7 : Only (fun b => b = w.heap.size + 1) wr w7 := by
        rw [hw7]
        exact ((((Only.refl (fun b => b = w.heap.size + 1) wr).setCell (p := ⟨w.heap.size + 1, 0, none⟩) (.inl rfl) _).setCell (p := ⟨w.heap.size + 1, 1, none⟩) (.inl rfl) _).setCell (p := ⟨w.heap.size + 1, 2, none⟩) (.inl rfl) _).setCell (p := ⟨w.heap.size + 1, 3, none⟩) (.inl rfl) _
      have hh : w7.heap[w.heap.size + 1]? = some (.cells (boxCells nm ep nx (.slice A' i c')).toArray 49 (0, 0)) := by
        rw [hw7]
        exact blk_set (blk_set (blk_set (blk_set HRES.out 0 _) 1 _) 2 _) 3 _
      have hnb : NoB wr (w.heap.size + 1) := NoB.cells HRES.out (fun j x e => by
        rw [List.getElem?_toArray] at e
        rcases j with _ | _ | _ | _ | j <;> simp at e)
      have hrl := HM.out.row.lt
      have hrow : RowO w7 w.heap.size 37 4 A' i c' us := (HM.out.row.only ho7 (fun q hq e => by have := (hrl q hq).1; omega)).more (fun q hq => by have := (hrl q hq).1; omega)
      have hall : All2 (MsgA w7 A') us ms := HM.out.all.mono (fun v x ⟨B, m, d, h1, h2, h3, h4⟩ => ⟨B, m, d, h1, h2.keep ho7 (fun b hb => hb ▸ hnb), h3, h4⟩)
      have hbw7 : Below w.heap.size w w7 := HB.out.trans (ho7.below HB.out.size (fun b hb e => by omega))
      have HH := Lib.hid hh
      have HRW := Lib.hid hrow
      have HAL := Lib.hid hall
      have HBW7 := Lib.hid hbw7
      have HW7 := Lib.hid hw7
      clear hw7 ho7 hh hnb hrl hrow hall hbw7
      rw [← HW7.out]
      try simp only [Exit.inBlock, Exit.then]
      refine bodyPost_ret (results_cell_row' rfl _ _ (w.heap.size + 1) 49 _ (0, 0) rfl HH.out row49 size49) rfl ?_
      refine ⟨A', i, c', us, rfl, HRW.out, HAL.out, HBW7.out, fun v hv => ?_⟩
      obtain ⟨j, hj⟩ := List.mem_iff_getElem?.1 hv
      exact HFR.out j v (by have := (List.getElem?_eq_some_iff.1 hj).1; have := HRW.out.len; omega) hj
end Go.Proofs.YtlhaempecidohaaGreatDoor
namespace Go.Proofs.YtlhaempecidohaaGreatDoor
open Go.RowKit
set_option maxRecDepth 8000 in
set_option maxHeartbeats 1000000 in
theorem fits_any (m : Msg) (A : Option Addr) (n c : Nat) (hd0 : -9223372036854775808 ≤ m.date) (hd1 : m.date ≤ 9223372036854775807) (w : World) (hE : Env w) :
    Calls Tryz.prog 125 #[.agg (msgCells m (.slice A n c)).toArray] w fun e w' => e = .returned (.bool (fitsMsg m)) ∧ Below w.heap.size w w' := by
  unfold msgCells fitsMsg flagged
  obtain ⟨u, d, f, o⟩ := m
  dsimp only at hd0 hd1 ⊢
  obtain ⟨q, hq⟩ : ∃ q, q = (dated d && (decide (0 ≤ f) && decide (f ≤ 31))) := ⟨_, rfl⟩
  rw [← hq]
  have HQ := Lib.hid hq
  clear hq
  have hb0 : Below w.heap.size w (w.alloc (.cells #[.int .u32 (u : Int), .int .i64 d, .int .i64 f, .slice A n c] 37)) := (Below.refl _ _).alloc (Nat.le_refl _) _
  have HE := Lib.hid (hE.below hb0)
  have HB := Lib.hid hb0
  clear hE hb0
  have HD := Lib.hid hd0
  have HD' := Lib.hid hd1
  clear hd0 hd1
  go_enter Tryz.func125, Tryz.ntmps125
  go_wp2_with fail
  refine (print_any d HD.out HD'.out _ HE.out).mono ?_
  rintro e w1 ⟨s, rfl, hs, hb⟩
  have hB := Lib.hid (HB.out.trans (hb.mono HB.out.size))
  have c2 : w1.cell? ⟨w.heap.size, 2, none⟩ = some (.int .i64 f) := cell_later hb (cell_new w _ 37 rfl)
  clear hb
  have hs := str_empty hs
  cases ht : dated d
  · rw [ht] at hs
    go_wp2
    go_ret
    refine ⟨?_, hB.out⟩
    rw [HQ.out, ht]; rfl
  · rw [ht] at hs
    obtain ⟨h2, h3⟩ | ⟨h2, h3⟩ | ⟨h2, h3⟩ : (0 ≤ f ∧ f ≤ 31) ∨ (0 ≤ f ∧ ¬ f ≤ 31) ∨ (¬ 0 ≤ f ∧ f ≤ 31) := by omega
    all_goals
      go_wp2
      go_ret
      refine ⟨?_, hB.out⟩
      rw [HQ.out, ht]
      show Ending.returned (Value.bool _) = _
      simp [*]
set_option maxRecDepth 8000 in
set_option maxHeartbeats 1000000 in
/-- Right of a box that has a wrong name -/
theorem mright_no (nm : ByteArray) (ep nx : Nat) (o : Value) (ho : o.oneCell' = true) (w : World) (hn : named nm = false) (hs : nm.size ≤ 1000000) (hE : Env w) :
    Calls Tryz.prog 89 #[.agg (boxCells nm ep nx o).toArray] w fun e w' => e = .returned (.bool false) ∧ Below w.heap.size w w' := by
  unfold boxCells
  obtain ⟨ws, hws⟩ : ∃ ws, ws = w.alloc (.cells #[.string nm, .int .u32 (ep : Int), .int .u32 (nx : Int), o] 49) := ⟨_, rfl⟩
  have hbs : Below w.heap.size w ws := by rw [hws]; exact (Below.refl _ _).alloc (Nat.le_refl _) _
  have c0 : ws.cell? ⟨w.heap.size, 0, none⟩ = some (.string nm) := by rw [hws]; exact cell_new w _ 49 rfl
  obtain ⟨k0, hk0⟩ := (hE.below hbs).maxlen
  have HN := Lib.hid (norm_any nm hs k0 ws hk0)
  have HNN := Lib.hid hn
  have HBS := Lib.hid hbs
  have HWS := Lib.hid hws
  clear hE hbs hws hn hk0
  go_enter Tryz.func89, Tryz.ntmps89
  go_upto_region 1 with fail
  rw [← HWS.out]
  go_wp2_with fail
  refine HN.out.mono ?_
  rintro e w1 ⟨q, ok, rfl, hv, hb⟩
  have c0 := cell_later hb c0
  have HB := Lib.hid (HBS.out.trans (hb.mono HBS.out.size))
  clear hb
  rw [HNN.out] at hv
  cases ok
  · go_wp2_with fail
    go_ret
    exact ⟨rfl, HB.out⟩
  · rw [Bool.true_and] at hv
    have hv' : (q.toList == nm.toList) = false := by rw [str_eqb]; exact hv
    clear hv
    go_wp2_with fail
    go_ret
    exact ⟨rfl, HB.out⟩
set_option maxRecDepth 8000 in
set_option maxHeartbeats 3000000 in
/-- Right of a box that is right -/
theorem mright_yes (nm : ByteArray) (ep nx : Nat) (A : Option Addr) (n c : Nat) (vs : List (List Value)) (ms : List Msg) (w : World) (hb : rightBox ⟨nm, ep, nx, ms⟩ = true) (hr : RowR w A n 4 vs) (hx : All2 (MsgR w) vs ms) (hE : Env w) :
    Calls Tryz.prog 89 #[.agg (boxCells nm ep nx (.slice A n c)).toArray] w fun e w' => e = .returned (.bool true) ∧ Below w.heap.size w w' := by
  unfold boxCells
  obtain ⟨p1, p2, p3, p4, p5⟩ := rightBox_parts hb
  dsimp only at p1 p2 p3 p4 p5
  have hnl : ms.length = n := by rw [← hx.length]; exact hr.len
  rw [hnl] at p4
  have hnz := named_size p1
  obtain ⟨ws, hws⟩ : ∃ ws, ws = w.alloc (.cells #[.string nm, .int .u32 (ep : Int), .int .u32 (nx : Int), .slice A n c] 49) := ⟨_, rfl⟩
  have hbs : Below w.heap.size w ws := by rw [hws]; exact (Below.refl _ _).alloc (Nat.le_refl _) _
  have c0 : ws.cell? ⟨w.heap.size, 0, none⟩ = some (.string nm) := by rw [hws]; exact cell_new w _ 49 rfl
  have c1 : ws.cell? ⟨w.heap.size, 1, none⟩ = some (.int .u32 (ep : Int)) := by rw [hws]; exact cell_new w _ 49 rfl
  have c2 : ws.cell? ⟨w.heap.size, 2, none⟩ = some (.int .u32 (nx : Int)) := by rw [hws]; exact cell_new w _ 49 rfl
  have c3 : ws.cell? ⟨w.heap.size, 3, none⟩ = some (.slice A n c) := by rw [hws]; exact cell_new w _ 49 rfl
  obtain ⟨k0, hk0⟩ := (hE.below hbs).maxlen
  have HN := Lib.hid (norm_any nm (by omega) k0 ws hk0)
  have HBS := Lib.hid hbs
  have HWS := Lib.hid hws
  have HR := Lib.hid hr
  have HX := Lib.hid hx
  have HE := Lib.hid hE
  have HP1 := Lib.hid p1
  have HP5 := Lib.hid p5
  have HNL : Hid (ms.length = n) := hnl
  have HC2 := Lib.hid c2
  clear hE hbs hws hr hx p1 p5 hb hk0 hnl
  go_enter Tryz.func89, Tryz.ntmps89
  go_upto_region 1 with fail
  rw [← HWS.out]
  go_wp2_with fail
  refine HN.out.mono ?_
  rintro e w1 ⟨q, ok, rfl, hv, hb⟩
  rw [HP1.out, Bool.and_eq_true, decide_eq_true_eq] at hv
  obtain ⟨rfl, rfl⟩ := hv
  have c0 := cell_later hb c0
  have c1 := cell_later hb c1
  have c2 := cell_later hb c2
  have c3 := cell_later hb c3
  have HC2' := Lib.hid c2
  have HB := Lib.hid (HBS.out.trans (hb.mono HBS.out.size))
  have q1 : ¬ ((ep : Int) < 1) := by omega
  have q2 : ¬ ((nx : Int) < 1) := by omega
  have q3 : ¬ (500 : Int) < (n : Int) := by omega
  clear hb
  go_wp2_with fail
  clear c0 c1 c2 c3 q1 q2 q3
  go_loopw [5, 41] (fun v5 v41 wr => ∃ (i last : Nat), i ≤ n ∧ v5 = .int .u32 (last : Int) ∧ v41 = .int .i64 (i : Int) ∧ boxFrom nx last (ms.drop i) = true ∧ Below w1.heap.size w1 wr) (fun _ v41 _ => n - (intOf v41).toNat)
  case atStart => exact ⟨0, 0, Nat.zero_le _, rfl, rfl, HP5.out, Below.refl _ _⟩
  case round =>
    obtain ⟨i, last, hi, rfl, rfl, hbf, hb⟩ := hrel
    have HBF := Lib.hid hbf
    have HBX := Lib.hid hb
    have HBW := Lib.hid (HB.out.trans (hb.mono HB.out.size))
    have c2 := cell_later hb HC2'.out
    clear hbf hb
    by_cases hlt : i < n
    · obtain ⟨gA, v, rfl, hv, hvl, hc⟩ := (HR.out.below HBW.out).at_ hlt
      obtain ⟨x, hxi, B, m, d, rfl, hrb, hmd⟩ := HX.out.left hv
      obtain ⟨hil, hie⟩ := List.getElem?_eq_some_iff.1 hxi
      have hst := HBF.out
      rw [List.drop_eq_getElem_cons hil, hie] at hst
      simp only [boxFrom, Bool.and_eq_true, decide_eq_true_eq] at hst
      obtain ⟨⟨⟨⟨s1, s2⟩, s3⟩, s4⟩, s5⟩ := hst
      have hdt := s3
      unfold fitsMsg dated at hdt
      simp only [Bool.and_eq_true, decide_eq_true_eq] at hdt
      rw [hrb.1] at s4
      obtain ⟨d37, hu, hd⟩ := rowT row37
      have HU := Lib.hid hu
      have HD := Lib.hid hd
      unfold msgCells at hc
      have HC := Lib.hid hc
      have HS5 := Lib.hid s5
      obtain ⟨wa, hwa⟩ : ∃ wa, wa = wr.alloc (.cells #[.int .u32 (x.uid : Int), .int .i64 x.date, .int .i64 x.flags, .slice B m d] 37) := ⟨_, rfl⟩
      have hba : Below wr.heap.size wr wa := by rw [hwa]; exact (Below.refl _ _).alloc (Nat.le_refl _) _
      have a0 : wa.cell? ⟨wr.heap.size, 0, none⟩ = some (.int .u32 (x.uid : Int)) := by rw [hwa]; exact cell_new wr _ 37 rfl
      have a1 : wa.cell? ⟨wr.heap.size, 1, none⟩ = some (.int .i64 x.date) := by rw [hwa]; exact cell_new wr _ 37 rfl
      have a2 : wa.cell? ⟨wr.heap.size, 2, none⟩ = some (.int .i64 x.flags) := by rw [hwa]; exact cell_new wr _ 37 rfl
      have a3 : wa.cell? ⟨wr.heap.size, 3, none⟩ = some (.slice B m d) := by rw [hwa]; exact cell_new wr _ 37 rfl
      have c2 := cell_later hba c2
      have HBA := Lib.hid (HBX.out.trans (hba.mono HBX.out.size))
      have hF := fits_any x B m d (by omega) (by omega) wa ((HE.out.below HB.out).below HBA.out)
      rw [s3] at hF
      unfold msgCells at hF
      have HF := Lib.hid hF
      have HWA := Lib.hid hwa
      have t1 : ¬ ((x.uid : Int) ≤ (last : Int)) := by omega
      have t2 : ¬ ((nx : Int) ≤ (x.uid : Int)) := by omega
      have t3 : ¬ ((20000 : Int) < (m : Int)) := by omega
      have t1' : ¬ x.uid ≤ last := by omega
      have t2' : ¬ nx ≤ x.uid := by omega
      clear hv hvl hc hxi hil hie hrb s3 s5 hu hd hba hF hwa hdt
      go_upto_region 8 with (refine wpList_load_mid rfl 37 (.tmp 43) rfl gA (i * 4) rfl _ d37 HC.out HU.out HD.out size37 ?_)
      rw [← HWA.out]
      go_wp2_with fail
      refine HF.out.mono ?_
      rintro e w3 ⟨rfl, hb3⟩
      have a0 := cell_later hb3 a0
      have a3 := cell_later hb3 a3
      have HB3 := Lib.hid (HBA.out.trans (hb3.mono HBA.out.size))
      clear hb3 a1 a2 c2
      go_wp2_with fail
      exact ⟨⟨i + 1, x.uid, hlt, by first | rfl | (congr 1), by first | rfl | (congr 1), HS5.out, HB3.out⟩, by simp [intOf]; omega⟩
    · go_wp2_with fail
      go_ret
      exact ⟨rfl, HBW.out⟩
end Go.Proofs.YtlhaempecidohaaGreatDoor
