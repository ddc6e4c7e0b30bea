/-
  Package store: frames. Package mail: New, At. Package mail: Append. slices.Index, slices.Contains of UIDs: that they hand back something; flag.Change likewise. Package mail: Store. Package mail: Store.
-/
import Derived.Test.YtlhaempecidohaaGreatDoorJbb
import Derived.Test.YtlhaempecidohaaGreatDoorJba
set_option linter.unusedSimpArgs false
set_option linter.unusedVariables false
namespace Go.Proofs.YtlhaempecidohaaGreatDoor
open Go.RowKit
def frB (x : Note) : List Nat := frameB x.kind.toNat (encode x)
theorem logB_flat : ∀ ns : List Note, logB ns = ns.flatMap frB
  | [] => rfl
  | x :: ns => by
    have := logB_flat ns
    unfold logB at this ⊢
    rw [List.map_cons, List.flatMap_cons, ← this]
    rfl
/-- a note in a row, read -/
def NoteR (w : World) (v : List Value) (x : Note) : Prop := ∃ B m d, v = noteCells x (.slice B m d) ∧ RB w B m x.msg.oct ∧ m ≤ d
theorem NoteR.below {w w' : World} (hb : Below w.heap.size w w') (v : List Value) (x : Note) (h : NoteR w v x) : NoteR w' v x := by
  obtain ⟨B, m, d, h1, h2, h3⟩ := h
  exact ⟨B, m, d, h1, h2.below hb, h3⟩
/-- a slice of the call's own -/
def OwnS (w : World) (base : Nat) (s : Value) (x : Note) : Prop := ∃ B m d, s = .slice B m d ∧ Own w base B m d (frB x)
def sV (s : Value) : List Value := [s]
theorem inf23 : (Tryz.prog.info? 23).map (fun i => (i.zero, i.size, i.bytes)) = some (some (.slice none 0 0), 1, 24) := by kernel_rfl
theorem und186 : Tryz.prog.underlying 186 = some (.slice 23) := by kernel_rfl
/-- of memory's sizes: what a note's fields may be -/
structure Note.fits (x : Note) : Prop where
  wf : x.wf
  name : x.name.size ≤ 1000000
  d0 : -9223372036854775808 ≤ x.msg.date
  d1 : x.msg.date ≤ 9223372036854775807
  oct : x.msg.oct.length ≤ 10000000
/-- what frames hands back -/
def FramesE (w : World) (ns : List Note) (e : Ending) (w' : World) : Prop :=
  (∃ (v : Value) (z : Int), z ≠ 0 ∧ e = .returned (.tuple #[v, .int .i64 z]) ∧ Below w.heap.size w w') ∨
  (∃ (A : Option Addr) (c : Nat) (ss : List Value), Formed ns ∧ e = .returned (.tuple #[.slice A ns.length c, .int .i64 0]) ∧ RowO w' w.heap.size 23 1 A ns.length c (ss.map sV) ∧ All2 (OwnS w' w.heap.size) ss ns ∧ Below w.heap.size w w')
theorem row134' : (Tryz.prog.underlying 134).map TypeDesc.isRow = some true := row134
set_option maxRecDepth 8000 in
set_option maxHeartbeats 2000000 in
theorem frames_any (A : Option Addr) (n c : Nat) (vs : List (List Value)) (ns : List Note) (w : World) (hr : RowR w A n 7 vs) (hx : All2 (NoteR w) vs ns) (hn : n ≤ 10000000) (hf : ∀ x ∈ ns, x.fits) (hE : Env w) :
    Calls Tryz.prog 127 #[.slice A n c] w (FramesE w ns) := by
  have hnl : ns.length = n := by rw [← hx.length]; exact hr.len
  have HR := Lib.hid hr
  have HX := Lib.hid hx
  have HNL : Hid (ns.length = n) := hnl
  have HF := Lib.hid hf
  have HE := Lib.hid hE
  clear hr hx hnl hf hE
  go_enter Tryz.func127, Tryz.ntmps127
  go_wp2_with fail
  go_loopw [4, 11] (fun v4 v11 wr => ∃ (i : Nat) (G : Option Addr) (kc : Nat) (ss : List Value), i ≤ n ∧ v4 = .slice G i kc ∧ v11 = .int .i64 (i : Int) ∧ RowO wr w.heap.size 23 1 G i kc (ss.map sV) ∧ All2 (OwnS wr w.heap.size) ss (ns.take i) ∧ (∀ x ∈ ns.take i, formed x = true) ∧ Below w.heap.size w wr) (fun _ v11 _ => n - (intOf v11).toNat)
  case atStart => exact ⟨0, none, 0, [], Nat.zero_le _, rfl, rfl, RowO.nil _ _ _ _, trivial, by simp, Below.refl _ _⟩
  case round =>
    obtain ⟨i, G, kc, ss, hi, rfl, rfl, hrow, hall, hfm, hb⟩ := hrel
    have HROW := Lib.hid hrow
    have HALL := Lib.hid hall
    have HFM := Lib.hid hfm
    have HB := Lib.hid hb
    clear hrow hall hfm hb
    by_cases hlt : i < n
    · obtain ⟨g', v, rfl, hv, -, hc⟩ := (HR.out.below HB.out).at_ hlt
      obtain ⟨x, hxi, B, m, d, rfl, hrb, hmd⟩ := HX.out.left hv
      obtain ⟨d134, hu, hd⟩ := rowT row134
      have HU := Lib.hid hu
      have HD := Lib.hid hd
      unfold noteCells msgCells at hc
      dsimp only [List.cons_append, List.nil_append] at hc
      have HC := Lib.hid hc
      have hfx := HF.out x (List.mem_of_getElem? hxi)
      have htk : ns.take (i + 1) = ns.take i ++ [x] := by
        obtain ⟨h1, h2⟩ := List.getElem?_eq_some_iff.1 hxi
        rw [List.take_succ_eq_append_getElem h1, h2]
      have HTK := Lib.hid htk
      obtain ⟨wa, hwa⟩ : ∃ wa, wa = wr.alloc (.cells #[.int .i64 x.kind, .int .u32 (x.epoch : Int), .string x.name, .int .u32 (x.msg.uid : Int), .int .i64 x.msg.date, .int .i64 x.msg.flags, .slice B m d] 134) := ⟨_, rfl⟩
      have hba : Below wr.heap.size wr wa := by rw [hwa]; exact (Below.refl _ _).alloc (Nat.le_refl _) _
      have hga : wa.heap[wr.heap.size]? = some (.cells #[.int .i64 x.kind, .int .u32 (x.epoch : Int), .string x.name, .int .u32 (x.msg.uid : Int), .int .i64 x.msg.date, .int .i64 x.msg.flags, .slice B m d] 134 (0, 0)) := by rw [hwa]; exact heap_alloc_new wr _
      have a0 := cell_of_row wa _ 0 _ _ _ hga
      have a1 := cell_of_row wa _ 1 _ _ _ hga
      have a2 := cell_of_row wa _ 2 _ _ _ hga
      have a3 := cell_of_row wa _ 3 _ _ _ hga
      have a4 := cell_of_row wa _ 4 _ _ _ hga
      have a5 := cell_of_row wa _ 5 _ _ _ hga
      have a6 := cell_of_row wa _ 6 _ _ _ hga
      have hbwA := HB.out.trans (hba.mono HB.out.size)
      have hrbA := hrb.below hbwA
      have HBWA := Lib.hid hbwA
      have HEA := Lib.hid (HE.out.below hbwA)
      have HWA := Lib.hid hwa
      have HRBA := Lib.hid hrbA
      have HFX := Lib.hid hfx
      have hml : m = x.msg.oct.length := hrb.1.symm
      have HML := Lib.hid hml
      cases hfb : formed x
      · have hbad := frame_bad x B m d hfb hml (by rw [hml]; exact hfx.oct) hfx.name hfx.d0 hfx.d1 wa HEA.out
        unfold noteV noteCells msgCells at hbad
        dsimp only [List.cons_append, List.nil_append] at hbad
        have HBAD := Lib.hid hbad
        clear hv hc hxi hu hd htk hga hwa hba hbwA hrbA hrb hfx hml hfb hbad
        go_upto_region 5 with (refine wpList_load_mid rfl 134 (.tmp 13) rfl g' (i * 7) rfl _ d134 HC.out HU.out HD.out size134 ?_)
        rw [← HWA.out]
        go_wp2_with fail
        refine HBAD.out.mono ?_
        rintro e w2 ⟨A2, n2, c2, rfl, -, hb2⟩
        have HB2 := Lib.hid (HBWA.out.trans (hb2.mono HBWA.out.size))
        clear hb2 a0 a1 a2 a3 a4 a5 a6
        go_wp2_with fail
        go_ret2
        exact .inl ⟨_, 1, by decide, rfl, HB2.out⟩
      · have hgood := frame_note x B m d hfb hfx.wf wa hrbA HEA.out
        unfold noteV noteCells msgCells at hgood
        dsimp only [List.cons_append, List.nil_append] at hgood
        have HGOOD := Lib.hid hgood
        have HFB := Lib.hid hfb
        clear hv hc hxi hu hd htk hga hwa hba hbwA hrbA hrb hfx hml hfb hgood
        go_upto_region 5 with (refine wpList_load_mid rfl 134 (.tmp 13) rfl g' (i * 7) rfl _ d134 HC.out HU.out HD.out size134 ?_)
        rw [← HWA.out]
        go_wp2_with fail
        refine HGOOD.out.mono ?_
        rintro e w2 ⟨A2, n2, c2, rfl, hown, hb2⟩
        have hbw2 := HBWA.out.trans (hb2.mono HBWA.out.size)
        have hown' : Own w2 w.heap.size A2 n2 c2 (frB x) := hown.more (fun q hq => Nat.le_trans HBWA.out.size (hown.lt q hq).1)
        have hr2 : Below wr.heap.size wr w2 := by
          have h1 : Below wr.heap.size wr wa := by rw [HWA.out]; exact (Below.refl _ _).alloc (Nat.le_refl _) _
          exact h1.trans (hb2.mono h1.size)
        have HRW2 := Lib.hid (HROW.out.below hr2)
        have hall2 : All2 (OwnS w2 w.heap.size) ss (ns.take i) := HALL.out.mono (fun s y ⟨B', m', d', h1, h2⟩ => ⟨B', m', d', h1, h2.only (Only.of_below hr2 (fun _ => False)) (fun _ _ h => h)⟩)
        have HAL2 := Lib.hid hall2
        have HOW := Lib.hid hown'
        have HBW2 := Lib.hid hbw2
        have hz : w.heap.size ≤ w2.heap.size := hbw2.size
        clear hown hown' hb2 hbw2 hr2 hall2 a0 a1 a2 a3 a4 a5 a6
        go_wp2_with (at_builtin; refine wp_append_row rfl (.tmp 23) (.tmp 25) 186 23 1 _ 24 und186 inf23 rfl (by decide) (by decide) rfl rfl rfl (HRW2.out.below ((Below.refl _ _).alloc (Nat.le_refl _) _)) (range_new w2 (sV (.slice A2 n2 c2)) 23) rfl (by simp [sV, Value.oneCell']) (by omega) (by simp; omega) ?_; intro G5 c5 w5 hro5 ho5 hbk5; have HRO5 := Lib.hid hro5; have HO5 := Lib.hid ho5; have hb5 := (Below.refl w2.heap.size w2).alloc (Nat.le_refl _) (.cells (sV (.slice A2 n2 c2)).toArray 23); have HB5 := Lib.hid hb5; clear hro5 ho5 hbk5 hb5)
        have hrl := HRW2.out.lt
        have key : ∀ {B' : Option Addr} {m' d' : Nat} {l : List Nat}, Own w2 w.heap.size B' m' d' l → Own w5 w.heap.size B' m' d' l := fun {B' m' d' l} h => by
          have h4 := h.only (Only.of_below HB5.out (fun _ => False)) (fun _ _ h => h)
          refine h4.only HO5.out (fun q hq e => ?_)
          obtain ⟨cs, hcs⟩ := h4.type q hq
          exact (HRW2.out.below HB5.out).neb hcs (by decide) e
        have hall5 : All2 (OwnS w5 w.heap.size) (ss ++ [.slice A2 n2 c2]) (ns.take i ++ [x]) :=
          (HAL2.out.mono (fun s y ⟨B', m', d', h1, h2⟩ => (⟨B', m', d', h1, key h2⟩ : OwnS w5 w.heap.size s y))).snoc ⟨A2, n2, c2, rfl, key HOW.out⟩
        refine ⟨⟨i + 1, G5, c5, ss ++ [.slice A2 n2 c2], hlt, rfl, by first | rfl | (congr 1), ?_, by rw [HTK.out]; exact hall5, ?_, ?_⟩, by simp [intOf]; omega⟩
        · rw [List.map_append]; exact HRO5.out
        · rw [HTK.out]
          intro y hy
          rcases List.mem_append.1 hy with hy | hy
          · exact HFM.out y hy
          · rw [List.mem_singleton.1 hy]; exact HFB.out
        · exact HBW2.out.trans ((HB5.out.mono hz).trans (HO5.out.below (Nat.le_trans hz HB5.out.size) (fun b hb e => by have := (hrl b e).1; omega)))
    · obtain rfl : i = n := by omega
      have htk : ns.take i = ns := List.take_of_length_le (by rw [HNL.out]; exact Nat.le_refl _)
      have hall := HALL.out
      have hfm := HFM.out
      rw [htk] at hall hfm
      have HA := Lib.hid hall
      have HFF : Hid (Formed ns) := fun x hx => ⟨hfm x hx, (HF.out x hx).wf⟩
      clear htk hall hfm
      go_wp2_with fail
      go_ret2
      refine .inr ⟨G, kc, ss, HFF.out, by rw [HNL.out]; rfl, ?_, HA.out, HB.out⟩
      rw [HNL.out]
      exact HROW.out
end Go.Proofs.YtlhaempecidohaaGreatDoor
namespace Go.Proofs.YtlhaempecidohaaGreatDoor
open Go.RowKit
/-- what New hands back -/
def NewE (b : Bool) (w : World) (e : Ending) (w' : World) : Prop := ∃ (s : ByteArray) (x y : Int), e = .returned (.tuple #[.agg #[.string s, .int .u32 x, .int .u32 y, .slice none 0 0], .int .i64 (if b then 0 else 1)]) ∧ Below w.heap.size w w'
set_option maxRecDepth 8000 in
set_option maxHeartbeats 1000000 in
theorem mnew_any (nm : ByteArray) (w : World) (hs : nm.size ≤ 1000000) (hE : Env w) :
    Calls Tryz.prog 60 #[.string nm, .int .u32 1] w (NewE (named nm) w) := by
  obtain ⟨ws, hws⟩ : ∃ ws, ws = (w.alloc (.cells #[.string ⟨#[]⟩, .int .u32 0, .int .u32 0, .slice none 0 0] 49)).alloc (.cells #[.string nm, .int .u32 1, .int .u32 1, .slice none 0 0] 49) := ⟨_, rfl⟩
  have hbs : Below w.heap.size w ws := by rw [hws]; exact ((Below.refl _ _).alloc (Nat.le_refl _) _).alloc (by simp) _
  have hg0 : ws.heap[w.heap.size]? = some (.cells #[.string ⟨#[]⟩, .int .u32 0, .int .u32 0, .slice none 0 0] 49 (0, 0)) := by
    rw [hws, Below.heap_alloc _ _ _ (by simp)]
    exact heap_alloc_new w _
  have hg1 : ws.heap[w.heap.size + 1]? = some (.cells #[.string nm, .int .u32 1, .int .u32 1, .slice none 0 0] 49 (0, 0)) := by
    rw [hws]
    have := heap_alloc_new (w.alloc (.cells #[.string ⟨#[]⟩, .int .u32 0, .int .u32 0, .slice none 0 0] 49)) (.cells #[.string nm, .int .u32 1, .int .u32 1, .slice none 0 0] 49)
    rwa [World.size_alloc] at this
  have hN : Calls Tryz.prog 89 #[.agg #[.string nm, .int .u32 1, .int .u32 1, .slice none 0 0]] ws fun e w' => e = .returned (.bool (named nm)) ∧ Below ws.heap.size ws w' := by
    cases h : named nm
    · exact mright_no nm 1 1 (.slice none 0 0) rfl ws h hs (hE.below hbs)
    · exact mright_yes nm 1 1 none 0 0 [] [] ws (by unfold rightBox; simp [h, boxFrom]) (RowR.nil _ _ _) trivial (hE.below hbs)
  have HN := Lib.hid hN
  have HG0 := Lib.hid hg0
  have HG1 := Lib.hid hg1
  have HBS := Lib.hid hbs
  have HWS := Lib.hid hws
  clear hE hN hg0 hg1 hbs hws
  go_enter Tryz.func60, Tryz.ntmps60
  go_upto_region 2 with fail
  rw [← HWS.out]
  have k0 := cell_of_row ws _ 0 _ _ _ HG1.out
  have k1 := cell_of_row ws _ 1 _ _ _ HG1.out
  have k2 := cell_of_row ws _ 2 _ _ _ HG1.out
  have k3 := cell_of_row ws _ 3 _ _ _ HG1.out
  go_wp2_with fail
  refine HN.out.mono ?_
  rintro e w1 ⟨rfl, hb⟩
  have k0 := cell_later hb k0
  have k1 := cell_later hb k1
  have k2 := cell_later hb k2
  have k3 := cell_later hb k3
  have hr := (hb.block _ (Array.getElem?_eq_some_iff.1 HG0.out).1).trans HG0.out
  have HRES := Lib.hid hr
  have HB := Lib.hid (HBS.out.trans (hb.mono HBS.out.size))
  have r0 := cell_of_row w1 _ 0 _ _ _ hr
  have r1 := cell_of_row w1 _ 1 _ _ _ hr
  have r2 := cell_of_row w1 _ 2 _ _ _ hr
  have r3 := cell_of_row w1 _ 3 _ _ _ hr
  have rf : ∀ j, w1.frozen? ⟨w.heap.size, j, none⟩ = false := fun j => by simp [World.frozen?, HRES.out]
  clear hb hr
  obtain ⟨b, hb⟩ : ∃ b, named nm = b := ⟨_, rfl⟩
  have HBB := Lib.hid hb
  try rw [hb]
  clear hb
  have fin : ∀ (v0 v1 v2 v3 : Value), ((((w1.setCell ⟨w.heap.size, 0, none⟩ v0).setCell ⟨w.heap.size, 1, none⟩ v1).setCell ⟨w.heap.size, 2, none⟩ v2).setCell ⟨w.heap.size, 3, none⟩ v3).heap[w.heap.size]? = some (.cells #[v0, v1, v2, v3] 49 (0, 0)) ∧ Below w.heap.size w ((((w1.setCell ⟨w.heap.size, 0, none⟩ v0).setCell ⟨w.heap.size, 1, none⟩ v1).setCell ⟨w.heap.size, 2, none⟩ v2).setCell ⟨w.heap.size, 3, none⟩ v3) := by
    intro v0 v1 v2 v3
    refine ⟨by have := blk_set (blk_set (blk_set (blk_set HRES.out 0 v0) 1 v1) 2 v2) 3 v3; simpa using this, ?_⟩
    have ho := ((((Only.refl (fun b => b = w.heap.size) w1).setCell (p := ⟨w.heap.size, 0, none⟩) (.inl rfl) v0).setCell (p := ⟨w.heap.size, 1, none⟩) (.inl rfl) v1).setCell (p := ⟨w.heap.size, 2, none⟩) (.inl rfl) v2).setCell (p := ⟨w.heap.size, 3, none⟩) (.inl rfl) v3
    exact HB.out.trans (ho.below HB.out.size (fun b hb e => by omega))
  have FIN := Lib.hid fin
  clear fin
  cases b
  all_goals
    go_wp2_with fail
    try simp only [Exit.inBlock, Exit.then]
    obtain ⟨f1, f3⟩ := FIN.out _ _ _ _
    refine bodyPost_ret (results_cell_tmp_row rfl _ _ w.heap.size 49 _ (0, 0) rfl f1 row49 size49) rfl ?_
    first
      | exact ⟨⟨#[]⟩, 0, 0, by (try rw [HBB.out]); rfl, f3⟩
      | exact ⟨nm, 1, 1, by (try rw [HBB.out]); rfl, f3⟩
theorem isUid_any (x : Msg) (o : Value) (ho : o.oneCell' = true) (u gu : Nat) (w : World) (c1 : w.cell? ⟨gu, 0, none⟩ = some (.int .u32 (u : Int))) :
    Calls Tryz.prog 191 #[.agg (msgCells x o).toArray, .pointer (some ⟨gu, 0, none⟩)] w fun e w' => e = .returned (.bool (decide (x.uid = u))) ∧ Below w.heap.size w w' := by
  have hb0 : Below w.heap.size w (w.alloc (.cells (msgCells x o).toArray 37)) := (Below.refl _ _).alloc (Nat.le_refl _) _
  have c1 := cell_later hb0 c1
  have e1 := nat_beq x.uid u
  unfold msgCells at c1 hb0 ⊢
  have HB := Lib.hid hb0
  clear hb0
  obtain ⟨b, hb⟩ : ∃ b, b = decide (x.uid = u) := ⟨_, rfl⟩
  rw [← hb] at e1 ⊢
  clear hb
  go_enter Tryz.func191, Tryz.ntmps191
  go_wp2
  go_ret
  exact ⟨rfl, HB.out⟩
set_option maxRecDepth 8000 in
set_option maxHeartbeats 1000000 in
theorem idxUid_any (u gu : Nat) (A : Option Addr) (n c : Nat) (vs : List (List Value)) (ms : List Msg) (m0 : Msg) (w : World) (hr : RowR w A n 4 vs) (hx : All2 (MsgR w) vs ms) (hn : n ≤ 10000000)
    (c1 : w.cell? ⟨gu, 0, none⟩ = some (.int .u32 (u : Int))) (hf : ms.find? (fun x => decide (x.uid = u)) = some m0) :
    Calls Tryz.prog 190 #[.slice A n c, .func (Fn.func 191) #[] #[.pointer (some ⟨gu, 0, none⟩)]] w fun e w' => (∃ i : Nat, i < n ∧ e = .returned (.int .i64 (i : Int)) ∧ ms[i]? = some m0) ∧ Below w.heap.size w w' := by
  have hnl : ms.length = n := by rw [← hx.length]; exact hr.len
  have HR := Lib.hid hr
  have HX := Lib.hid hx
  have H1 := Lib.hid c1
  have HF := Lib.hid hf
  have HNL : Hid (ms.length = n) := hnl
  clear hr hx c1 hf hnl
  go_enter Tryz.func190, Tryz.ntmps190
  go_wp2_with fail
  go_loopw [8] (fun v8 wr => ∃ i : Nat, i ≤ n ∧ v8 = .int .i64 (i : Int) ∧ (∀ x ∈ ms.take i, decide (x.uid = u) = false) ∧ Below w.heap.size w wr) (fun v8 _ => n - (intOf v8).toNat)
  case atStart => exact ⟨0, Nat.zero_le _, rfl, by simp, Below.refl _ _⟩
  case round =>
    obtain ⟨i, hi, rfl, hno, hb⟩ := hrel
    have HNO := Lib.hid hno
    have HB := Lib.hid hb
    clear hno hb
    by_cases hlt : i < n
    · obtain ⟨g, v, rfl, hv, hvl, hc⟩ := (HR.out.below HB.out).at_ hlt
      obtain ⟨x, hxi, B, m, d, rfl, -, -⟩ := HX.out.left hv
      have hcl := isUid_any x (.slice B m d) rfl u gu wr (cell_later HB.out H1.out)
      obtain ⟨d37, hu, hd⟩ := rowT row37
      have HU := Lib.hid hu
      have HD := Lib.hid hd
      unfold msgCells at hc hcl
      have HC := Lib.hid hc
      have HCL := Lib.hid hcl
      have HXI := Lib.hid hxi
      clear hv hvl hc hcl hxi hu hd
      obtain ⟨b, hbb⟩ : ∃ b, decide (x.uid = u) = b := ⟨_, rfl⟩
      rw [hbb] at HCL
      have HBB := Lib.hid hbb
      clear hbb
      cases b
      all_goals
        go_wp2_with (first
          | (refine wpList_load_mid rfl 37 (.tmp 14) rfl g (i * 4) rfl _ d37 HC.out HU.out HD.out size37 ?_)
          | (go_at_call 191; refine HCL.out.mono ?_; rintro e w1 ⟨rfl, hb1⟩; have HB1 := Lib.hid (HB.out.trans (hb1.mono HB.out.size)); clear hb1))
      · refine ⟨⟨i + 1, hlt, by first | rfl | (congr 1), ?_, HB1.out⟩, by simp [intOf]; omega⟩
        obtain ⟨hil, hie⟩ := List.getElem?_eq_some_iff.1 HXI.out
        rw [List.take_succ_eq_append_getElem hil, hie]
        intro y hy
        rcases List.mem_append.1 hy with hy | hy
        · exact HNO.out y hy
        · rw [List.mem_singleton.1 hy]; exact HBB.out
      · go_ret
        refine ⟨⟨i, hlt, rfl, ?_⟩, HB1.out⟩
        have hff := HF.out
        obtain ⟨hil, hie⟩ := List.getElem?_eq_some_iff.1 HXI.out
        rw [← List.take_append_drop i ms, List.find?_append, List.drop_eq_getElem_cons hil, hie, List.find?_cons, HBB.out] at hff
        rw [show (ms.take i).find? (fun x => decide (x.uid = u)) = none from List.find?_eq_none.2 (fun y hy => by rw [HNO.out y hy]; simp)] at hff
        rw [HXI.out]
        simpa using hff
    · exfalso
      have hff := HF.out
      have : ms.find? (fun x => decide (x.uid = u)) = none := List.find?_eq_none.2 (fun y hy => by
        rw [HNO.out y (by rw [List.take_of_length_le (by rw [HNL.out]; omega)]; exact hy)]; simp)
      rw [this] at hff
      cases hff
set_option maxRecDepth 8000 in
set_option maxHeartbeats 1000000 in
theorem at_any (nm : ByteArray) (ep nx u : Nat) (A : Option Addr) (n c : Nat) (vs : List (List Value)) (ms : List Msg) (m0 : Msg) (w : World) (hr : RowR w A n 4 vs) (hx : All2 (MsgR w) vs ms) (hn : n ≤ 10000000) (hf : ms.find? (fun x => decide (x.uid = u)) = some m0) :
    Calls Tryz.prog 130 #[.agg (boxCells nm ep nx (.slice A n c)).toArray, .int .u32 (u : Int)] w fun e w' => (∃ i : Nat, i < n ∧ e = .returned (.int .i64 (i : Int)) ∧ ms[i]? = some m0) ∧ Below w.heap.size w w' := by
  unfold boxCells
  obtain ⟨ws, hws⟩ : ∃ ws, ws = (w.alloc (.cells #[.string nm, .int .u32 (ep : Int), .int .u32 (nx : Int), .slice A n c] 49)).alloc (.cells #[.int .u32 (u : Int)] 35) := ⟨_, rfl⟩
  have hbs : Below w.heap.size w ws := by rw [hws]; exact ((Below.refl _ _).alloc (Nat.le_refl _) _).alloc (by simp) _
  have c3 : ws.cell? ⟨w.heap.size, 3, none⟩ = some (.slice A n c) := by
    rw [hws]
    exact cell_later ((Below.refl _ _).alloc (Nat.le_refl _) _) (cell_new w _ 49 rfl)
  have d0 : ws.cell? ⟨w.heap.size + 1, 0, none⟩ = some (.int .u32 (u : Int)) := by
    rw [hws]
    have := cell_new (w.alloc (.cells #[.string nm, .int .u32 (ep : Int), .int .u32 (nx : Int), .slice A n c] 49)) #[.int .u32 (u : Int)] 35 (i := 0) rfl
    rwa [World.size_alloc] at this
  have HI := Lib.hid (idxUid_any u (w.heap.size + 1) A n c vs ms m0 ws (hr.below hbs) (hx.mono (MsgR.below hbs)) hn d0 hf)
  have HBS := Lib.hid hbs
  have HWS := Lib.hid hws
  clear hr hx hf hbs hws d0
  go_enter Tryz.func130, Tryz.ntmps130
  go_upto_region 1 with fail
  rw [← HWS.out]
  go_wp2_with fail
  refine HI.out.mono ?_
  rintro e w1 ⟨⟨i, hi, rfl, hm⟩, hb⟩
  have HM := Lib.hid hm
  have HB := Lib.hid (HBS.out.trans (hb.mono HBS.out.size))
  clear hm hb
  go_wp2_with fail
  go_ret
  exact ⟨⟨i, hi, rfl, HM.out⟩, HB.out⟩
end Go.Proofs.YtlhaempecidohaaGreatDoor
namespace Go.Proofs.YtlhaempecidohaaGreatDoor
open Go.RowKit
/-- three results, the first of a variable of its own -/
theorem results_cell_tmp2 {P : Program} {fn : Func} {p u u' : Tmp} {ty : TypeId} (h : fn.results = #[.cell p ty, .tmp u, .tmp u']) (tmps : Array Value) (w : World) (g : Nat) (t : TypeId) (cs : Array Value) (fr : Nat × Nat)
    (hp : tmps.getD p undef = .pointer (some ⟨g, 0, none⟩)) (hg : w.heap[g]? = some (.cells cs t fr))
    (hr : (P.underlying ty).map TypeDesc.isRow = some true) (hi : (P.info? ty).map (·.size) = some cs.size) :
    (results fn tmps).run P w = .ok (.tuple #[.agg cs, tmps.getD u undef, tmps.getD u' undef]) w := by
  obtain ⟨d, hu, hd⟩ := rowT hr
  have h1 := run_loadVar_row w g t ty cs fr d hg hu (by cases d <;> simp_all) hi
  have hp1 : tmps[p]?.getD undef = .pointer (some ⟨g, 0, none⟩) := by simpa using hp
  simp [results, h, hp1, asAddr, h1]
/-- a mailbox at block g, its messages in a row at A that is another block -/
structure BoxN (w : World) (base g : Nat) (A : Option Addr) (n c : Nat) (vs : List (List Value)) (nm : ByteArray) (ep nx : Nat) (ms : List Msg) : Prop where
  blk : w.heap[g]? = some (.cells (boxCells nm ep nx (.slice A n c)).toArray 49 (0, 0))
  row : RowO w base 37 4 A n c vs
  all : All2 (MsgA w A) vs ms
  ne : YtlhaempecidohaaGreatDoor.blk A ≠ some g
section
variable {w w' : World} {base g n c : Nat} {A : Option Addr} {vs : List (List Value)} {nm : ByteArray} {ep nx : Nat} {ms : List Msg}
theorem BoxN.below (h : BoxN w base g A n c vs nm ep nx ms) (hb : Below w.heap.size w w') : BoxN w' base g A n c vs nm ep nx ms :=
  ⟨(hb.block g (Array.getElem?_eq_some_iff.1 h.blk).1).trans h.blk, h.row.below hb, h.all.mono (MsgA.below hb), h.ne⟩
theorem BoxN.lt (h : BoxN w base g A n c vs nm ep nx ms) : g < w.heap.size := (Array.getElem?_eq_some_iff.1 h.blk).1
theorem BoxN.keep {S : Nat → Prop} (h : BoxN w base g A n c vs nm ep nx ms) (ho : Only S w w') (hg : ¬ S g) (hA : ∀ q, YtlhaempecidohaaGreatDoor.blk A = some q → ¬ S q) (hS : ∀ b, S b → NoB w b) : BoxN w' base g A n c vs nm ep nx ms :=
  ⟨ho.heap h.blk hg, h.row.only ho hA, h.all.mono (fun v x ⟨B, m, d, h1, h2, h3, h4⟩ => ⟨B, m, d, h1, h2.keep ho hS, h3, h4⟩), h.ne⟩
end
/-- one message more -/
theorem boxn_more {we w4 w5 : World} {base g n c m d c5 : Nat} {A A5 B : Option Addr} {vs : List (List Value)} {nm : ByteArray} {ep nx : Nat} {ms : List Msg} {x : Msg} (h : BoxN we base g A n c vs nm ep nx ms) (hr : RB we B m x.oct) (hmd : m ≤ d)
    (hap : 0 < m → ∀ q, blk B = some q → blk A ≠ some q) (hb4 : Below we.heap.size we w4) (hro5 : RowO w5 base 37 4 A5 (n + 1) c5 (vs ++ [msgCells x (.slice B m d)])) (ho5 : Only (fun b => blk A = some b) w4 w5)
    (hbk : blk A5 = blk A ∨ blk A5 = some w4.heap.size) :
    BoxN (w5.setCell ⟨g, 3, none⟩ (.slice A5 (n + 1) c5)) base g A5 (n + 1) c5 (vs ++ [msgCells x (.slice B m d)]) nm ep nx (ms ++ [x]) ∧
      Only (fun b => b = g ∨ blk A = some b) we (w5.setCell ⟨g, 3, none⟩ (.slice A5 (n + 1) c5)) := by
  have hlt := h.lt
  have hg5 : w5.heap[g]? = _ := ho5.heap ((hb4.block g hlt).trans h.blk) h.ne
  have hnb := boxNoB hg5
  have ho6 : Only (fun b => b = g) w5 (w5.setCell ⟨g, 3, none⟩ (.slice A5 (n + 1) c5)) := (Only.refl (fun b => b = g) w5).setCell (p := ⟨g, 3, none⟩) (.inl rfl) _
  have hne5 : blk A5 ≠ some g := fun e => by
    rcases hbk with hk | hk
    · exact h.ne (hk ▸ e)
    · rw [hk] at e
      injection e with e
      have := hb4.size
      omega
  refine ⟨⟨blk_set hg5 3 _, hro5.only ho6 (fun q hq e => hne5 (by rw [hq, e])), ?_, hne5⟩, ?_⟩
  · refine All2.snoc (h.all.mono ?_) ?_
    · rintro v y ⟨B', m', d', h1, h2, h3, h4⟩
      obtain ⟨k1, k2⟩ := pays_later h2 h4 hb4 ho5 hbk hnb ho6
      exact ⟨B', m', d', h1, k1, h3, k2⟩
    · obtain ⟨k1, k2⟩ := pays_later hr hap hb4 ho5 hbk hnb ho6
      exact ⟨B, m, d, rfl, k1, hmd, k2⟩
  · exact ((Only.of_below hb4 (fun b => b = g ∨ blk A = some b)).trans ho5 (fun _ _ h => .inr h)).trans ho6 (fun _ _ h => .inl h)
/-- what Append hands back -/
def AppE (w : World) (b : BoxS) (x : Msg) (e : Ending) (w' : World) : Prop :=
  if addE b x = 0 then ∃ A n c vs, e = .returned (.tuple #[.agg (boxCells b.name b.epoch (b.next + 1) (.slice A n c)).toArray, .int .u32 (b.next : Int), .int .i64 0]) ∧ RowO w' w.heap.size 37 4 A n c vs ∧ All2 (MsgA w' A) vs (addS b x).msgs ∧ Below w.heap.size w w' ∧ (∀ v ∈ vs, FrV w.heap.size v)
  else e = .returned (.tuple #[.agg #[.string ⟨#[]⟩, .int .u32 0, .int .u32 0, .slice none 0 0], .int .u32 0, .int .i64 (addE b x)]) ∧ Below w.heap.size w w'
set_option maxRecDepth 8000 in
set_option maxHeartbeats 3000000 in
theorem mappend_any (nm : ByteArray) (ep nx : Nat) (A B : Option Addr) (n c k d : Nat) (vs : List (List Value)) (ms : List Msg) (x : Msg) (w : World) (hb : rightBox ⟨nm, ep, nx, ms⟩ = true) (hnx : nx < 4294967296)
    (hr : RowR w A n 4 vs) (hx : All2 (MsgR w) vs ms) (hB : RB w B k x.oct) (hkd : k ≤ d) (hk : k ≤ 10000000) (hd0 : -9223372036854775808 ≤ x.date) (hd1 : x.date ≤ 9223372036854775807) (hE : Env w) :
    Calls Tryz.prog 68 #[.agg (boxCells nm ep nx (.slice A n c)).toArray, .agg (msgCells x (.slice B k d)).toArray] w (AppE w ⟨nm, ep, nx, ms⟩ x) := by
  have hnl : ms.length = n := by rw [← hx.length]; exact hr.len
  have hbp := rightBox_parts hb
  have h500 := hbp.2.2.2.1
  dsimp only at h500
  rw [hnl] at h500
  have hoct : ∀ y ∈ ms, y.oct.length ≤ 10000000 := fun y hy => by have := (boxFrom_lt hbp.2.2.2.2 y hy).2.2.2; omega
  have hkl := hB.1
  unfold boxCells msgCells
  obtain ⟨ws, hws⟩ : ∃ ws, ws = ((w.alloc (.cells #[.string nm, .int .u32 (ep : Int), .int .u32 (nx : Int), .slice A n c] 49)).alloc (.cells #[.int .u32 (x.uid : Int), .int .i64 x.date, .int .i64 x.flags, .slice B k d] 37)).alloc (.cells #[.string ⟨#[]⟩, .int .u32 0, .int .u32 0, .slice none 0 0] 49) := ⟨_, rfl⟩
  have hss : ws.heap.size = w.heap.size + 3 := by rw [hws]; simp
  have hbs : Below w.heap.size w ws := by rw [hws]; exact (((Below.refl _ _).alloc (Nat.le_refl _) _).alloc (by simp) _).alloc (by simp; omega) _
  have hg0 : ws.heap[w.heap.size]? = some (.cells #[.string nm, .int .u32 (ep : Int), .int .u32 (nx : Int), .slice A n c] 49 (0, 0)) := by
    rw [hws, Below.heap_alloc _ _ _ (by simp; omega), Below.heap_alloc _ _ _ (by simp)]
    exact heap_alloc_new w _
  have hg1 : ws.heap[w.heap.size + 1]? = some (.cells #[.int .u32 (x.uid : Int), .int .i64 x.date, .int .i64 x.flags, .slice B k d] 37 (0, 0)) := by
    rw [hws, Below.heap_alloc _ _ _ (by simp)]
    have := heap_alloc_new (w.alloc (.cells #[.string nm, .int .u32 (ep : Int), .int .u32 (nx : Int), .slice A n c] 49)) (.cells #[.int .u32 (x.uid : Int), .int .i64 x.date, .int .i64 x.flags, .slice B k d] 37)
    rwa [World.size_alloc] at this
  have hg2 : ws.heap[w.heap.size + 1 + 1]? = some (.cells #[.string ⟨#[]⟩, .int .u32 0, .int .u32 0, .slice none 0 0] 49 (0, 0)) := by
    rw [hws]
    have := heap_alloc_new ((w.alloc (.cells #[.string nm, .int .u32 (ep : Int), .int .u32 (nx : Int), .slice A n c] 49)).alloc (.cells #[.int .u32 (x.uid : Int), .int .i64 x.date, .int .i64 x.flags, .slice B k d] 37)) (.cells #[.string ⟨#[]⟩, .int .u32 0, .int .u32 0, .slice none 0 0] 49)
    rwa [World.size_alloc, World.size_alloc] at this
  have hxs : All2 (MsgR ws) vs ms := hx.mono (MsgR.below hbs)
  have hRY := mright_yes nm ep nx A n c vs ms ws hb (hr.below hbs) hxs (hE.below hbs)
  have hFY : ∀ w1, Below ws.heap.size ws w1 → _ := fun w1 h1 => fits_any x B k d hd0 hd1 w1 ((hE.below hbs).below h1)
  unfold boxCells at hRY
  unfold msgCells at hFY
  have hadd : addE ⟨nm, ep, nx, ms⟩ x = if fitsMsg x = false then 1 else if 20000 < k then 3 else if 500 ≤ n then 5 else if nx = 4294967295 then 4 else 0 := by
    unfold addE
    rw [hb, hkl]
    simp only [Bool.true_eq_false, false_or]
    rw [hnl]
  have HADD := Lib.hid hadd
  have HNL : Hid (ms.length = n) := hnl
  have HRY := Lib.hid hRY
  have HFY := Lib.hid hFY
  have HR := Lib.hid (hr.below hbs)
  have HX := Lib.hid hxs
  have HB := Lib.hid (hB.below hbs)
  have HOC := Lib.hid hoct
  have HG0 := Lib.hid hg0
  have HG1 := Lib.hid hg1
  have HG2 := Lib.hid hg2
  have HBS := Lib.hid hbs
  have HWS := Lib.hid hws
  have HSS := Lib.hid hss
  have b0 := cell_of_row ws _ 0 _ _ _ hg0
  have b1 := cell_of_row ws _ 1 _ _ _ hg0
  have b2 := cell_of_row ws _ 2 _ _ _ hg0
  have b3 := cell_of_row ws _ 3 _ _ _ hg0
  clear hnl hbp hoct hkl hws hss hbs hg0 hg1 hg2 hxs hRY hFY hadd hb hr hx hB hd0 hd1 hE
  go_enter Tryz.func68, Tryz.ntmps68
  go_upto_region 1 with fail
  rw [← HWS.out]
  go_wp2_with fail
  refine HRY.out.mono ?_
  rintro e w1 ⟨rfl, hb1⟩
  have HB1 := Lib.hid hb1
  have HF1 := Lib.hid (HFY.out w1 hb1)
  have q0 := (hb1.block _ (Array.getElem?_eq_some_iff.1 HG0.out).1).trans HG0.out
  have q1 := (hb1.block _ (Array.getElem?_eq_some_iff.1 HG1.out).1).trans HG1.out
  have q2 := (hb1.block _ (Array.getElem?_eq_some_iff.1 HG2.out).1).trans HG2.out
  have m0 := cell_of_row w1 _ 0 _ _ _ q1
  have m1 := cell_of_row w1 _ 1 _ _ _ q1
  have m2 := cell_of_row w1 _ 2 _ _ _ q1
  have m3 := cell_of_row w1 _ 3 _ _ _ q1
  have Q0 := Lib.hid q0
  have Q1 := Lib.hid q1
  have Q2 := Lib.hid q2
  clear q0 q1 q2 b0 b1 b2 b3 hb1 HFY HRY
  go_wp2_with fail
  refine HF1.out.mono ?_
  rintro e w2 ⟨rfl, hb2⟩
  have hb12 := HB1.out.trans (hb2.mono HB1.out.size)
  have HB2 := Lib.hid hb12
  have q0 := (hb2.block _ (Array.getElem?_eq_some_iff.1 Q0.out).1).trans Q0.out
  have q1 := (hb2.block _ (Array.getElem?_eq_some_iff.1 Q1.out).1).trans Q1.out
  have q2 := (hb2.block _ (Array.getElem?_eq_some_iff.1 Q2.out).1).trans Q2.out
  have P0 := Lib.hid q0
  have P1 := Lib.hid q1
  have P2 := Lib.hid q2
  clear m0 m1 m2 m3 hb12 hb2 q0 q1 q2 Q0 Q1 Q2 HF1 HB1
  have r0 := cell_of_row w2 _ 0 _ _ _ P2.out
  have r1 := cell_of_row w2 _ 1 _ _ _ P2.out
  have r2 := cell_of_row w2 _ 2 _ _ _ P2.out
  have r3 := cell_of_row w2 _ 3 _ _ _ P2.out
  have rf : ∀ j, w2.frozen? ⟨w.heap.size + 1 + 1, j, none⟩ = false := fun j => by simp [World.frozen?, P2.out]
  have fin : ∀ (v0 v1 v2 v3 : Value), ((((w2.setCell ⟨w.heap.size + 1 + 1, 0, none⟩ v0).setCell ⟨w.heap.size + 1 + 1, 1, none⟩ v1).setCell ⟨w.heap.size + 1 + 1, 2, none⟩ v2).setCell ⟨w.heap.size + 1 + 1, 3, none⟩ v3).heap[w.heap.size + 1 + 1]? = some (.cells #[v0, v1, v2, v3] 49 (0, 0)) ∧ Below w.heap.size w ((((w2.setCell ⟨w.heap.size + 1 + 1, 0, none⟩ v0).setCell ⟨w.heap.size + 1 + 1, 1, none⟩ v1).setCell ⟨w.heap.size + 1 + 1, 2, none⟩ v2).setCell ⟨w.heap.size + 1 + 1, 3, none⟩ v3) := by
    intro v0 v1 v2 v3
    refine ⟨blk_set (blk_set (blk_set (blk_set P2.out 0 v0) 1 v1) 2 v2) 3 v3, ?_⟩
    have ho := ((((Only.refl (fun b => b = w.heap.size + 1 + 1) w2).setCell (p := ⟨w.heap.size + 1 + 1, 0, none⟩) (.inl rfl) v0).setCell (p := ⟨w.heap.size + 1 + 1, 1, none⟩) (.inl rfl) v1).setCell (p := ⟨w.heap.size + 1 + 1, 2, none⟩) (.inl rfl) v2).setCell (p := ⟨w.heap.size + 1 + 1, 3, none⟩) (.inl rfl) v3
    exact HBS.out.trans ((HB2.out.mono HBS.out.size).trans (ho.below (by have := HBS.out.size; have := HB2.out.size; omega) (fun b hb e => by omega)))
  have FIN := Lib.hid fin
  clear fin
  have m0 := cell_of_row w2 _ 0 _ _ _ P1.out
  have m1 := cell_of_row w2 _ 1 _ _ _ P1.out
  have m2 := cell_of_row w2 _ 2 _ _ _ P1.out
  have m3 := cell_of_row w2 _ 3 _ _ _ P1.out
  have b0 := cell_of_row w2 _ 0 _ _ _ P0.out
  have b1 := cell_of_row w2 _ 1 _ _ _ P0.out
  have b2 := cell_of_row w2 _ 2 _ _ _ P0.out
  have b3 := cell_of_row w2 _ 3 _ _ _ P0.out
  obtain ⟨bf, hbf⟩ : ∃ b, fitsMsg x = b := ⟨_, rfl⟩
  rw [hbf] at HADD ⊢
  clear hbf
  cases bf
  · go_wp2_with fail
    try simp only [Exit.inBlock, Exit.then]
    obtain ⟨f1, f3⟩ := FIN.out _ _ _ _
    refine bodyPost_ret (results_cell_tmp2 rfl _ _ (w.heap.size + 1 + 1) 49 _ (0, 0) rfl f1 row49 size49) rfl ?_
    unfold AppE
    have hh : addE ⟨nm, ep, nx, ms⟩ x = 1 := by rw [HADD.out]; rfl
    rw [hh, if_neg (by decide)]
    exact ⟨rfl, f3⟩
  · have HADD' : Hid (addE ⟨nm, ep, nx, ms⟩ x = if 20000 < k then 3 else if 500 ≤ n then 5 else if nx = 4294967295 then 4 else 0) := by
      show _ = _
      rw [HADD.out, if_neg (by decide)]
    clear HADD
    by_cases t1 : 20000 < k
    · have t1' : (20000 : Int) < (k : Int) := by omega
      have HT := Lib.hid t1
      clear t1
      go_wp2_with fail
      try simp only [Exit.inBlock, Exit.then]
      obtain ⟨f1, f3⟩ := FIN.out _ _ _ _
      refine bodyPost_ret (results_cell_tmp2 rfl _ _ (w.heap.size + 1 + 1) 49 _ (0, 0) rfl f1 row49 size49) rfl ?_
      unfold AppE
      rw [HADD'.out, if_pos HT.out, if_neg (by decide)]
      exact ⟨rfl, f3⟩
    · have t1' : ¬ (20000 : Int) < (k : Int) := by omega
      have HT1 := Lib.hid t1
      clear t1
      by_cases t2 : 500 ≤ n
      · have t2' : (500 : Int) ≤ (n : Int) := by omega
        have HT := Lib.hid t2
        clear t2
        go_wp2_with fail
        try simp only [Exit.inBlock, Exit.then]
        obtain ⟨f1, f3⟩ := FIN.out _ _ _ _
        refine bodyPost_ret (results_cell_tmp2 rfl _ _ (w.heap.size + 1 + 1) 49 _ (0, 0) rfl f1 row49 size49) rfl ?_
        unfold AppE
        rw [HADD'.out, if_neg HT1.out, if_pos HT.out, if_neg (by decide)]
        exact ⟨rfl, f3⟩
      · have t2' : ¬ (500 : Int) ≤ (n : Int) := by omega
        have HT2 := Lib.hid t2
        clear t2
        by_cases t3 : nx = 4294967295
        · have t3' : ((nx : Int) == 4294967295) = true := by rw [t3]; rfl
          have HT := Lib.hid t3
          clear t3
          go_wp2_with fail
          try simp only [Exit.inBlock, Exit.then]
          obtain ⟨f1, f3⟩ := FIN.out _ _ _ _
          refine bodyPost_ret (results_cell_tmp2 rfl _ _ (w.heap.size + 1 + 1) 49 _ (0, 0) rfl f1 row49 size49) rfl ?_
          unfold AppE
          rw [HADD'.out, if_neg HT1.out, if_neg HT2.out, if_pos HT.out, if_neg (by decide)]
          exact ⟨rfl, f3⟩
        · have t3' : ((nx : Int) == 4294967295) = false := by simp; omega
          have HT3 := Lib.hid t3
          have hc := clone_any nm ep nx A n c vs ms w2 (HR.out.below HB2.out) (HX.out.mono (MsgR.below HB2.out)) (by omega) HOC.out
          unfold boxCells at hc
          have HC := Lib.hid hc
          clear t3 hc FIN r0 r1 r2 r3 rf
          go_wp2_with fail
          refine HC.out.mono ?_
          rintro e w3 ⟨A3, n3, c3, vs3, rfl, hro3, hal3, hb3, hfr3⟩
          have HFR3 := Lib.hid hfr3
          clear hfr3
          have hn3 : n3 = n := by rw [← hro3.len, hal3.length, HNL.out]
          subst hn3
          obtain ⟨w4, hw4⟩ : ∃ w4, w4 = w3.alloc (.cells #[.string nm, .int .u32 (ep : Int), .int .u32 (nx : Int), .slice A3 n3 c3] 49) := ⟨_, rfl⟩
          have hb4 : Below w3.heap.size w3 w4 := by rw [hw4]; exact (Below.refl _ _).alloc (Nat.le_refl _) _
          have hM4 : BoxN w4 w2.heap.size w3.heap.size A3 n3 c3 vs3 nm ep nx ms := by
            refine ⟨by rw [hw4]; exact heap_alloc_new _ _, hro3.below hb4, hal3.mono (MsgA.below hb4), fun e => by have := (hro3.lt _ e).2; omega⟩
          have hb24 : Below w2.heap.size w2 w4 := hb3.trans (hb4.mono hb3.size)
          have s24 := hb24.size
          have q0 := (hb24.block _ (Array.getElem?_eq_some_iff.1 P0.out).1).trans P0.out
          have q1 := (hb24.block _ (Array.getElem?_eq_some_iff.1 P1.out).1).trans P1.out
          have q2 := (hb24.block _ (Array.getElem?_eq_some_iff.1 P2.out).1).trans P2.out
          have hlt1 : w.heap.size + 1 < w2.heap.size := (Array.getElem?_eq_some_iff.1 P1.out).1
          have hlt2 : w.heap.size + 1 + 1 < w2.heap.size := (Array.getElem?_eq_some_iff.1 P2.out).1
          have hs23 := hb3.size
          have hrb4 : RB w4 B k x.oct := (HB.out.below HB2.out).below hb24
          have HRB4 : Hid (RB w4.drew B k x.oct) := hrb4
          have HM4 := Lib.hid hM4
          have Q0 := Lib.hid q0
          have Q1 := Lib.hid q1
          have Q2 := Lib.hid q2
          have HB24 := Lib.hid hb24
          have HW4 := Lib.hid hw4
          have b2 : w4.drew.cell? ⟨w.heap.size, 2, none⟩ = some (.int .u32 (nx : Int)) := cell_of_row w4 _ 2 _ _ _ q0
          have m0 : w4.drew.cell? ⟨w.heap.size + 1, 0, none⟩ = some (.int .u32 (x.uid : Int)) := cell_of_row w4 _ 0 _ _ _ q1
          have m3 : w4.drew.cell? ⟨w.heap.size + 1, 3, none⟩ = some (.slice B k d) := cell_of_row w4 _ 3 _ _ _ q1
          have mf : ∀ j, w4.drew.frozen? ⟨w.heap.size + 1, j, none⟩ = false := fun j => (by simp [World.frozen?, Q1.out] : w4.frozen? ⟨w.heap.size + 1, j, none⟩ = false)
          clear hw4 hb4 hM4 hb24 q0 q1 q2 hro3 hal3 hb3 hrb4
          unfold boxCells
          go_upto_region 10 with fail
          rw [← HW4.out]
          go_cut [] from 37 to 43 (fun wx => ∃ B5 d5, wx.heap[w.heap.size + 1]? = some (.cells #[.int .u32 (nx : Int), .int .i64 x.date, .int .i64 x.flags, .slice B5 k d5] 37 (0, 0)) ∧ RB wx B5 k x.oct ∧ k ≤ d5 ∧ (∀ q, blk B5 = some q → w4.heap.size ≤ q) ∧ Only (fun b => b = w.heap.size + 1) w4 wx)
          case first =>
            go_region_law (go_simp; go_at_call 26; refine (bclone B k d x.oct _ HRB4.out (by omega)).mono ?_; rintro e w5 ⟨B5, d5, rfl, hown5, hb5⟩; have HB5 := Lib.hid hb5; have HO5 := Lib.hid hown5; have b2 := cell_later hb5 b2; have m0 := cell_later hb5 m0; have m3 := cell_later hb5 m3; have Q5 := Lib.hid ((hb5.block _ (Array.getElem?_eq_some_iff.1 Q1.out).1).trans Q1.out); have mf : ∀ j, w5.frozen? ⟨w.heap.size + 1, j, none⟩ = false := (fun j => by simp [World.frozen?, Q5.out]); clear hown5 hb5)
            all_goals
              go_wp2_with fail
              go_meet
              have hon : Only (fun b => b = w.heap.size + 1) w5 ((w5.setCell ⟨w.heap.size + 1, 0, none⟩ (.int .u32 (nx : Int))).setCell ⟨w.heap.size + 1, 3, none⟩ (.slice B5 k d5)) := ((Only.refl (fun b => b = w.heap.size + 1) w5).setCell (p := ⟨w.heap.size + 1, 0, none⟩) (.inl rfl) _).setCell (p := ⟨w.heap.size + 1, 3, none⟩) (.inl rfl) _
              have hnq : ∀ q, blk B5 = some q → w4.heap.size ≤ q := fun q hq => (HO5.out.lt q hq).1
              refine ⟨B5, d5, blk_set (blk_set Q5.out 0 _) 3 _, HO5.out.read.only hon (fun q hq e => by have := hnq q hq; omega), HO5.out.le, hnq, ?_⟩
              exact (Only.of_below (show Below w4.heap.size w4 w5 from (Below.refl w4.heap.size w4).drew.trans HB5.out) _).trans hon (fun _ _ h => h)
          case rest =>
            obtain ⟨B5, d5, hm5, hr5, hkd5, hnq, ho5⟩ := hcut
            have HNQ := Lib.hid hnq
            have hrl := HM4.out.row.lt
            have hnb : NoB w4 (w.heap.size + 1) := NoB.cells Q1.out (fun j x e => by
              rw [List.getElem?_toArray] at e
              rcases j with _ | _ | _ | _ | j <;> simp at e)
            have hM5 : BoxN wc w2.heap.size w3.heap.size A3 n3 c3 vs3 nm ep nx ms := HM4.out.keep ho5 (by omega) (fun q hq e => by have := (hrl q hq).1; omega) (fun b hb => hb ▸ hnb)
            have hq2 := ho5.heap Q2.out (by omega)
            have hbw5 : Below w.heap.size w wc := HBS.out.trans ((HB2.out.mono HBS.out.size).trans ((HB24.out.mono (by omega)).trans (ho5.below (by omega) (fun b hb e => by omega))))
            have HM5 := Lib.hid hM5
            have H52 := Lib.hid hq2
            have HBW5 := Lib.hid hbw5
            have HR5 := Lib.hid hr5
            have H5 := Lib.hid hm5
            have k2 : wc.cell? ⟨w3.heap.size, 2, none⟩ = some (.int .u32 (nx : Int)) := cell_of_row wc _ 2 _ _ _ hM5.blk
            have k3 : wc.cell? ⟨w3.heap.size, 3, none⟩ = some (.slice A3 n3 c3) := cell_of_row wc _ 3 _ _ _ hM5.blk
            have m0 : wc.cell? ⟨w.heap.size + 1, 0, none⟩ = some (.int .u32 (nx : Int)) := cell_of_row wc _ 0 _ _ _ hm5
            have m1 : wc.cell? ⟨w.heap.size + 1, 1, none⟩ = some (.int .i64 x.date) := cell_of_row wc _ 1 _ _ _ hm5
            have m2 : wc.cell? ⟨w.heap.size + 1, 2, none⟩ = some (.int .i64 x.flags) := cell_of_row wc _ 2 _ _ _ hm5
            have m3 : wc.cell? ⟨w.heap.size + 1, 3, none⟩ = some (.slice B5 k d5) := cell_of_row wc _ 3 _ _ _ hm5
            have hl3 := hM5.lt
            have hl1 : w.heap.size + 1 < wc.heap.size := (Array.getElem?_eq_some_iff.1 hm5).1
            have hl2 : w.heap.size + 1 + 1 < wc.heap.size := (Array.getElem?_eq_some_iff.1 hq2).1
            have hap : 0 < k → ∀ q, blk B5 = some q → blk A3 ≠ some q := fun _ q hq e => by have := hnq q hq; have := (hrl q e).2; omega
            have HAP := Lib.hid hap
            have HRL : Hid (∀ q, blk A3 = some q → w2.heap.size ≤ q) := fun q hq => (hrl q hq).1
            have hbase : w2.heap.size ≤ wc.heap.size := by have := ho5.size; omega
            have wnx : IntKind.u32.wrap ((nx : Int) + 1) = ((nx + 1 : Nat) : Int) := by rw [IntKind.wrap_u32]; have := HT3.out; omega
            clear hrl hnb hM5 hq2 hbw5 hr5 hm5 hnq ho5 hap
            go_upto_region 12 with (at_builtin; refine wp_append_row rfl (.tmp 45) (.tmp 47) 47 37 4 _ 48 und47 inf37 rfl (by decide) (by decide) rfl rfl rfl (HM5.out.row.below ((Below.refl _ _).alloc (Nat.le_refl _) _)) (range_new wc (msgCells ⟨nx, x.date, x.flags, x.oct⟩ (.slice B5 k d5)) 37) rfl (by simp [msgCells, Value.oneCell']) (by omega) (by simp; omega) ?_; intro A7 c7 w7 hro7 ho7 hbk7; have HRO7 := Lib.hid hro7; have HO7 := Lib.hid ho7; have HBK7 := Lib.hid hbk7; have hb6 := (Below.refl wc.heap.size wc).alloc (Nat.le_refl _) (.cells (msgCells ⟨nx, x.date, x.flags, x.oct⟩ (.slice B5 k d5)).toArray 37); have HB6 := Lib.hid hb6; have h17 := ho7.heap ((hb6.block _ hl3).trans HM5.out.blk) (fun e => HM5.out.ne e); have H17 := Lib.hid h17; have k3 : w7.cell? ⟨w3.heap.size, 3, none⟩ = some (.slice A3 n3 c3) := cell_of_row w7 _ 3 _ _ _ H17.out; have kf : ∀ j, w7.frozen? ⟨w3.heap.size, j, none⟩ = false := (fun j => by simp [World.frozen?, H17.out]); clear hro7 ho7 hbk7 h17 hb6)
            obtain ⟨p1, p2⟩ := boxn_more (x := ⟨nx, x.date, x.flags, x.oct⟩) HM5.out HR5.out hkd5 HAP.out HB6.out HRO7.out HO7.out HBK7.out
            generalize w7.setCell ⟨w3.heap.size, 3, none⟩ (.slice A7 (n3 + 1) c7) = w8 at p1 p2 ⊢
            have hns : ∀ b, b < w2.heap.size → ¬ (b = w3.heap.size ∨ blk A3 = some b) := fun b hb e => by
              rcases e with e | e
              · omega
              · have := HRL.out b e; omega
            have m0 := p2.cell m0 (hns _ hlt1)
            have hq2 := p2.heap H52.out (hns _ hlt2)
            have hbw8 := HBW5.out.trans (p2.below HBW5.out.size (fun b hb => hns b (by have := HBS.out.size; have := HB2.out.size; omega)))
            have k2 : w8.cell? ⟨w3.heap.size, 2, none⟩ = some (.int .u32 (nx : Int)) := cell_of_row w8 _ 2 _ _ _ p1.blk
            have kf : ∀ j, w8.frozen? ⟨w3.heap.size, j, none⟩ = false := fun j => by simp [World.frozen?, p1.blk]
            obtain ⟨w9, hw9⟩ : ∃ w9, w9 = w8.setCell ⟨w3.heap.size, 2, none⟩ (.int .u32 ((nx + 1 : Nat) : Int)) := ⟨_, rfl⟩
            have ho9 : Only (fun b => b = w3.heap.size) w8 w9 := by rw [hw9]; exact (Only.refl (fun b => b = w3.heap.size) w8).setCell (p := ⟨w3.heap.size, 2, none⟩) (.inl rfl) _
            have hblk9 : w9.heap[w3.heap.size]? = some (.cells (boxCells nm ep (nx + 1) (.slice A7 (n3 + 1) c7)).toArray 49 (0, 0)) := by rw [hw9]; exact blk_set p1.blk 2 _
            have hnb8 := boxNoB p1.blk
            have hne8 := p1.ne
            have hM9 : BoxN w9 w2.heap.size w3.heap.size A7 (n3 + 1) c7 (vs3 ++ [msgCells ⟨nx, x.date, x.flags, x.oct⟩ (.slice B5 k d5)]) nm ep (nx + 1) (ms ++ [⟨nx, x.date, x.flags, x.oct⟩]) :=
              ⟨hblk9, p1.row.only ho9 (fun q hq e => hne8 (by rw [hq, e])), p1.all.mono (fun v x ⟨B, m, d, h1, h2, h3, h4⟩ => ⟨B, m, d, h1, h2.keep ho9 (fun b hb => hb ▸ hnb8), h3, h4⟩), hne8⟩
            have hq29 := ho9.heap hq2 (by omega)
            have hbw9 := hbw8.trans (ho9.below hbw8.size (fun b hb e => by omega))
            have m0 := ho9.cell m0 (by simp only; omega)
            have HM9 := Lib.hid hM9
            have HQ29 := Lib.hid hq29
            have HBW9 := Lib.hid hbw9
            have HW9 := Lib.hid hw9
            clear p1 p2 hq2 hbw8 ho9 hblk9 hnb8 hne8 hM9 hq29 hbw9 hw9 hns
            go_upto_region 13 with fail
            rw [show w8.setCell ⟨w3.heap.size, 2, none⟩ (.int .u32 ((nx : Int) + 1)) = w9 from HW9.out.symm]
            clear k2 k3 kf m1 m2 m3 HW9
            have k0 : w9.cell? ⟨w3.heap.size, 0, none⟩ = some (.string nm) := cell_of_row w9 _ 0 _ _ _ HM9.out.blk
            have k1 : w9.cell? ⟨w3.heap.size, 1, none⟩ = some (.int .u32 (ep : Int)) := cell_of_row w9 _ 1 _ _ _ HM9.out.blk
            have k2 : w9.cell? ⟨w3.heap.size, 2, none⟩ = some (.int .u32 ((nx + 1 : Nat) : Int)) := cell_of_row w9 _ 2 _ _ _ HM9.out.blk
            have k3 : w9.cell? ⟨w3.heap.size, 3, none⟩ = some (.slice A7 (n3 + 1) c7) := cell_of_row w9 _ 3 _ _ _ HM9.out.blk
            have r0 := cell_of_row w9 _ 0 _ _ _ HQ29.out
            have r1 := cell_of_row w9 _ 1 _ _ _ HQ29.out
            have r2 := cell_of_row w9 _ 2 _ _ _ HQ29.out
            have r3 := cell_of_row w9 _ 3 _ _ _ HQ29.out
            have rf : ∀ j, w9.frozen? ⟨w.heap.size + 1 + 1, j, none⟩ = false := fun j => by simp [World.frozen?, HQ29.out]
            go_region
            (try go_wp2_with fail)
            obtain ⟨w10, hw10⟩ : ∃ w10, w10 = (((w9.setCell ⟨w.heap.size + 1 + 1, 0, none⟩ (.string nm)).setCell ⟨w.heap.size + 1 + 1, 1, none⟩ (.int .u32 (ep : Int))).setCell ⟨w.heap.size + 1 + 1, 2, none⟩ (.int .u32 ((nx : Int) + 1))).setCell ⟨w.heap.size + 1 + 1, 3, none⟩ (.slice A7 (n3 + 1) c7) := ⟨_, rfl⟩
            have ho10 : Only (fun b => b = w.heap.size + 1 + 1) w9 w10 := by
              rw [hw10]
              exact ((((Only.refl (fun b => b = w.heap.size + 1 + 1) w9).setCell (p := ⟨w.heap.size + 1 + 1, 0, none⟩) (.inl rfl) _).setCell (p := ⟨w.heap.size + 1 + 1, 1, none⟩) (.inl rfl) _).setCell (p := ⟨w.heap.size + 1 + 1, 2, none⟩) (.inl rfl) _).setCell (p := ⟨w.heap.size + 1 + 1, 3, none⟩) (.inl rfl) _
            have hh : w10.drew.heap[w.heap.size + 1 + 1]? = some (.cells (boxCells nm ep (nx + 1) (.slice A7 (n3 + 1) c7)).toArray 49 (0, 0)) := by
              show w10.heap[w.heap.size + 1 + 1]? = _
              rw [hw10]
              exact blk_set (blk_set (blk_set (blk_set HQ29.out 0 _) 1 _) 2 _) 3 _
            have hnb : NoB w9 (w.heap.size + 1 + 1) := NoB.cells HQ29.out (fun j x e => by
              rw [List.getElem?_toArray] at e
              rcases j with _ | _ | _ | _ | j <;> simp at e)
            have hrl := HM9.out.row.lt
            have hrow : RowO w10.drew w.heap.size 37 4 A7 (n3 + 1) c7 (vs3 ++ [msgCells ⟨nx, x.date, x.flags, x.oct⟩ (.slice B5 k d5)]) := (HM9.out.row.only ho10.drew (fun q hq e => by have := (hrl q hq).1; omega)).more (fun q hq => by have := (hrl q hq).1; omega)
            have hall : All2 (MsgA w10.drew A7) (vs3 ++ [msgCells ⟨nx, x.date, x.flags, x.oct⟩ (.slice B5 k d5)]) (ms ++ [⟨nx, x.date, x.flags, x.oct⟩]) := HM9.out.all.mono (fun v x ⟨B, m, d, h1, h2, h3, h4⟩ => ⟨B, m, d, h1, h2.keep ho10.drew (fun b hb => hb ▸ hnb), h3, h4⟩)
            have hbw10 : Below w.heap.size w w10.drew := (HBW9.out.trans (ho10.below HBW9.out.size (fun b hb e => by omega))).drew
            have HH := Lib.hid hh
            have HRW := Lib.hid hrow
            have HAL := Lib.hid hall
            have HBW10 := Lib.hid hbw10
            have HW10 := Lib.hid (congrArg World.drew hw10)
            clear hw10 ho10 hh hnb hrl hrow hall hbw10
            rw [← HW10.out]
            try simp only [Exit.inBlock, Exit.then]
            refine bodyPost_ret (results_cell_tmp2 rfl _ _ (w.heap.size + 1 + 1) 49 _ (0, 0) rfl HH.out row49 size49) rfl ?_
            unfold AppE
            have hz : addE ⟨nm, ep, nx, ms⟩ x = 0 := by rw [HADD'.out, if_neg HT1.out, if_neg HT2.out, if_neg HT3.out]
            rw [hz, if_pos rfl]
            refine ⟨A7, n3 + 1, c7, _, rfl, HRW.out, HAL.out, HBW10.out, fun v hv => ?_⟩
            have hz2 : w.heap.size ≤ w2.heap.size := by omega
            rcases List.mem_append.1 hv with hv | hv
            · obtain ⟨y, B', m', d', h1, h2⟩ := HFR3.out v hv
              exact ⟨y, B', m', d', h1, fun q hq => Nat.le_trans hz2 (h2 q hq)⟩
            · rw [List.mem_singleton.1 hv]
              exact ⟨_, B5, k, d5, rfl, fun q hq => by have := HNQ.out q hq; omega⟩
end Go.Proofs.YtlhaempecidohaaGreatDoor
namespace Go.Proofs.YtlhaempecidohaaGreatDoor
open Go.RowKit
/-- a slice of UIDs, read -/
def UR (w : World) (A : Option Addr) (n : Nat) (l : List Nat) : Prop :=
  l.length = n ∧ (∀ x ∈ l, x < 4294967296) ∧ (0 < n → ∃ ad, A = some ad ∧ ∀ (j x : Nat), l[j]? = some x → w.cell? (ad.add j) = some (.int .u32 (x : Int)))
theorem UR.at_ {w : World} {A : Option Addr} {n : Nat} {l : List Nat} (h : UR w A n l) {k : Nat} (hk : k < n) :
    ∃ ad x, A = some ad ∧ l[k]? = some x ∧ x < 4294967296 ∧ w.cell? (ad.add k) = some (.int .u32 (x : Int)) := by
  obtain ⟨h1, h2, h3⟩ := h
  obtain ⟨ad, e, hc⟩ := h3 (by omega)
  have hl : k < l.length := by omega
  exact ⟨ad, l[k], e, List.getElem?_eq_getElem hl, h2 _ (List.getElem_mem hl), hc k _ (List.getElem?_eq_getElem hl)⟩
theorem UR.below {w w' : World} {A : Option Addr} {n : Nat} {l : List Nat} (h : UR w A n l) (hb : Below w.heap.size w w') : UR w' A n l := by
  obtain ⟨h1, h2, h3⟩ := h
  refine ⟨h1, h2, fun hn => ?_⟩
  obtain ⟨ad, e, hc⟩ := h3 hn
  exact ⟨ad, e, fun j x hj => cell_later hb (hc j x hj)⟩
set_option maxRecDepth 8000 in
set_option maxHeartbeats 1000000 in
theorem uindex_any (A : Option Addr) (n c u : Nat) (l : List Nat) (w : World) (h : UR w A n l) (hn : n ≤ 1000000000) :
    Calls Tryz.prog 192 #[.slice A n c, .int .u32 (u : Int)] w fun e w' => (∃ i : Int, -1 ≤ i ∧ i ≤ 1000000000 ∧ e = .returned (.int .i64 i)) ∧ w' = w := by
  have H := Lib.hid h
  clear h
  go_enter Tryz.func192, Tryz.ntmps192
  go_wp2_with fail
  go_loopw [8] (fun v8 wr => ∃ i : Nat, i ≤ n ∧ v8 = .int .i64 (i : Int) ∧ wr = w) (fun v8 _ => n - (intOf v8).toNat)
  case atStart => exact ⟨0, Nat.zero_le _, rfl, rfl⟩
  case round =>
    obtain ⟨i, hi, rfl, rfl⟩ := hrel
    by_cases hlt : i < n
    · obtain ⟨ad, x, rfl, hx, hx2, hcell⟩ := H.out.at_ hlt
      have e1 := nat_beq u x
      obtain ⟨b, hb⟩ : ∃ b, b = decide (u = x) := ⟨_, rfl⟩
      rw [← hb] at e1
      clear hb hx
      cases b
      · go_wp2_with fail
        exact ⟨⟨i + 1, hlt, by first | rfl | (congr 1), by trivial⟩, by simp [intOf]; omega⟩
      · go_wp2_with fail
        go_ret
        exact ⟨⟨(i : Int), by omega, by omega, rfl⟩, rfl⟩
    · go_wp2_with fail
      go_ret
      exact ⟨⟨-1, by omega, by omega, rfl⟩, rfl⟩
theorem ucontains_any (A : Option Addr) (n c u : Nat) (l : List Nat) (w : World) (h : UR w A n l) (hn : n ≤ 1000000000) :
    Calls Tryz.prog 131 #[.slice A n c, .int .u32 (u : Int)] w fun e w' => (∃ b, e = .returned (.bool b)) ∧ w' = w := by
  have H := Lib.hid (uindex_any A n c u l w h hn)
  clear h
  go_enter Tryz.func131, Tryz.ntmps131
  go_wp2_with fail
  refine H.out.mono ?_
  rintro e w1 ⟨⟨i, h0, h1, rfl⟩, rfl⟩
  go_wp2_with fail
  go_ret
  exact ⟨⟨_, rfl⟩, rfl⟩
set_option maxHeartbeats 1000000 in
theorem change_any (f g k : Int) (w : World) : Calls Tryz.prog 132 #[.int .i64 f, .int .i64 g, .int .i64 k] w fun e w' => (∃ z, e = .returned (.int .i64 z)) ∧ w' = w := by
  by_cases h0 : k = 0
  · subst h0
    go_enter Tryz.func132, Tryz.ntmps132
    go_wp2
    go_ret
    exact ⟨⟨_, rfl⟩, rfl⟩
  · by_cases h1 : k = 1
    · subst h1
      go_enter Tryz.func132, Tryz.ntmps132
      go_wp2
      go_ret
      exact ⟨⟨_, rfl⟩, rfl⟩
    · by_cases h2 : k = 2
      · subst h2
        go_enter Tryz.func132, Tryz.ntmps132
        go_wp2
        go_ret
        exact ⟨⟨_, rfl⟩, rfl⟩
      · have e0 : (k == 0) = false := by simpa using h0
        have e1 : (k == 1) = false := by simpa using h1
        have e2 : (k == 2) = false := by simpa using h2
        go_enter Tryz.func132, Tryz.ntmps132
        go_wp2
        go_ret
        exact ⟨⟨_, rfl⟩, rfl⟩
end Go.Proofs.YtlhaempecidohaaGreatDoor
namespace Go.Proofs.YtlhaempecidohaaGreatDoor
open Go.RowKit
/-- cells of a message -/
def MsgV (v : List Value) (x : Msg) : Prop := ∃ B m d, v = msgCells x (.slice B m d) ∧ x.uid < 4294967296
theorem MsgA.v {w : World} {A : Option Addr} : ∀ {vs : List (List Value)} {ms : List Msg}, All2 (MsgA w A) vs ms → (∀ x ∈ ms, x.uid < 4294967296) → All2 MsgV vs ms
  | [], [], _, _ => trivial
  | v :: vs, x :: ms, ⟨⟨B, m, d, h1, _⟩, h2⟩, hu => ⟨⟨B, m, d, h1, hu x (by simp)⟩, MsgA.v h2 (fun y hy => hu y (by simp [hy]))⟩
/-- a mailbox at block g of whose messages nothing is told but that they are some -/
structure BoxV (w : World) (base g : Nat) (A : Option Addr) (n c : Nat) (nm : ByteArray) (ep nx : Nat) (vs : List (List Value)) (ms : List Msg) : Prop where
  blk : w.heap[g]? = some (.cells (boxCells nm ep nx (.slice A n c)).toArray 49 (0, 0))
  row : RowO w base 37 4 A n c vs
  all : All2 MsgV vs ms
  ne : YtlhaempecidohaaGreatDoor.blk A ≠ some g
section
variable {w w' : World} {base g n c : Nat} {A : Option Addr} {vs : List (List Value)} {nm : ByteArray} {ep nx : Nat} {ms : List Msg}
theorem BoxV.lt (h : BoxV w base g A n c nm ep nx vs ms) : g < w.heap.size := (Array.getElem?_eq_some_iff.1 h.blk).1
theorem BoxV.below (h : BoxV w base g A n c nm ep nx vs ms) (hb : Below w.heap.size w w') : BoxV w' base g A n c nm ep nx vs ms :=
  ⟨(hb.block g h.lt).trans h.blk, h.row.below hb, h.all, h.ne⟩
theorem BoxV.drew (h : BoxV w base g A n c nm ep nx vs ms) : BoxV w.drew base g A n c nm ep nx vs ms := ⟨h.blk, h.row.only (Only.refl (fun _ => False) w).drew (fun _ _ h => h), h.all, h.ne⟩
end
theorem boxv_flag {w : World} {base g n c i g' : Nat} {vs : List (List Value)} {nm : ByteArray} {ep nx : Nat} {ms : List Msg} {x : Msg} {o : Value}
    (h : BoxV w base g (some ⟨g', 0, none⟩) n c nm ep nx vs ms) (hv : vs[i]? = some (msgCells x o)) (ho : ∃ B m d, o = .slice B m d) (hu : x.uid < 4294967296) (z : Int) :
    BoxV (w.setCell ⟨g', i * 4 + 2, none⟩ (.int .i64 z)) base g (some ⟨g', 0, none⟩) n c nm ep nx (vs.set i (msgCells { x with flags := z } o)) (ms.set i { x with flags := z }) ∧ Only (fun b => b = g') w (w.setCell ⟨g', i * 4 + 2, none⟩ (.int .i64 z)) := by
  obtain ⟨p1, p2⟩ := h.row.put1 hv (j := 2) (by omega) (.int .i64 z)
  refine ⟨⟨p2.heap h.blk (fun e => h.ne (by rw [e]; rfl)), p1, ?_, h.ne⟩, p2⟩
  obtain ⟨B, m, d, rfl⟩ := ho
  exact h.all.set i ⟨B, m, d, rfl, hu⟩
/-- a box is stored whole -/
theorem res4 {w : World} {g : Nat} {a b c d : Value} {T : TypeId} (h : w.heap[g]? = some (.cells #[a, b, c, d] T (0, 0))) (v0 v1 v2 v3 : Value) :
    ((((w.setCell ⟨g, 0, none⟩ v0).setCell ⟨g, 1, none⟩ v1).setCell ⟨g, 2, none⟩ v2).setCell ⟨g, 3, none⟩ v3).heap[g]? = some (.cells #[v0, v1, v2, v3] T (0, 0)) ∧ Only (fun b => b = g) w ((((w.setCell ⟨g, 0, none⟩ v0).setCell ⟨g, 1, none⟩ v1).setCell ⟨g, 2, none⟩ v2).setCell ⟨g, 3, none⟩ v3) :=
  ⟨blk_set (blk_set (blk_set (blk_set h 0 _) 1 _) 2 _) 3 _, ((((Only.refl (fun b => b = g) w).setCell (p := ⟨g, 0, none⟩) (.inl rfl) _).setCell (p := ⟨g, 1, none⟩) (.inl rfl) _).setCell (p := ⟨g, 2, none⟩) (.inl rfl) _).setCell (p := ⟨g, 3, none⟩) (.inl rfl) _⟩
/-- a mailbox that is handed back, and OK -/
def BoxOK (w : World) (nm : ByteArray) (ep nx n : Nat) (e : Ending) (w' : World) : Prop :=
  ∃ A c vs ms, e = .returned (.tuple #[.agg (boxCells nm ep nx (.slice A n c)).toArray, .int .i64 0]) ∧ RowO w' w.heap.size 37 4 A n c vs ∧ All2 MsgV vs ms ∧ Below w.heap.size w w'
set_option maxRecDepth 8000 in
set_option maxHeartbeats 3000000 in
theorem mstore_any (nm : ByteArray) (ep nx : Nat) (A U : Option Addr) (n c un uc : Nat) (vs : List (List Value)) (ms : List Msg) (us : List Nat) (fl how : Int) (w : World) (hb : rightBox ⟨nm, ep, nx, ms⟩ = true) (hnx : nx < 4294967296)
    (hr : RowR w A n 4 vs) (hx : All2 (MsgR w) vs ms) (hu : UR w U un us) (hun : un ≤ 1000000000) (hE : Env w) :
    Calls Tryz.prog 71 #[.agg (boxCells nm ep nx (.slice A n c)).toArray, .slice U un uc, .int .i64 fl, .int .i64 how] w (BoxOK w nm ep nx n) := by
  have hnl : ms.length = n := by rw [← hx.length]; exact hr.len
  have hbp := rightBox_parts hb
  have h500 := hbp.2.2.2.1
  dsimp only at h500
  rw [hnl] at h500
  have hoct : ∀ y ∈ ms, y.oct.length ≤ 10000000 := fun y hy => by have := (boxFrom_lt hbp.2.2.2.2 y hy).2.2.2; omega
  have huid : ∀ y ∈ ms, y.uid < 4294967296 := fun y hy => by have := (boxFrom_lt hbp.2.2.2.2 y hy).2.1; dsimp only at this; omega
  have HUID := Lib.hid huid
  clear huid
  unfold boxCells
  obtain ⟨ws, hws⟩ : ∃ ws, ws = (w.alloc (.cells #[.string nm, .int .u32 (ep : Int), .int .u32 (nx : Int), .slice A n c] 49)).alloc (.cells #[.string ⟨#[]⟩, .int .u32 0, .int .u32 0, .slice none 0 0] 49) := ⟨_, rfl⟩
  have hbs : Below w.heap.size w ws := by rw [hws]; exact ((Below.refl _ _).alloc (Nat.le_refl _) _).alloc (by simp) _
  have hss : ws.heap.size = w.heap.size + 2 := by rw [hws]; simp
  have hg0 : ws.heap[w.heap.size]? = some (.cells #[.string nm, .int .u32 (ep : Int), .int .u32 (nx : Int), .slice A n c] 49 (0, 0)) := by
    rw [hws, Below.heap_alloc _ _ _ (by simp)]
    exact heap_alloc_new w _
  have hg1 : ws.heap[w.heap.size + 1]? = some (.cells #[.string ⟨#[]⟩, .int .u32 0, .int .u32 0, .slice none 0 0] 49 (0, 0)) := by
    rw [hws]
    have := heap_alloc_new (w.alloc (.cells #[.string nm, .int .u32 (ep : Int), .int .u32 (nx : Int), .slice A n c] 49)) (.cells #[.string ⟨#[]⟩, .int .u32 0, .int .u32 0, .slice none 0 0] 49)
    rwa [World.size_alloc] at this
  have hxs : All2 (MsgR ws) vs ms := hx.mono (MsgR.below hbs)
  have hRY := mright_yes nm ep nx A n c vs ms ws hb (hr.below hbs) hxs (hE.below hbs)
  have hC := fun w2 (h2 : Below ws.heap.size ws w2) => clone_any nm ep nx A n c vs ms w2 ((hr.below hbs).below h2) (hxs.mono (MsgR.below h2)) (by omega) hoct
  unfold boxCells at hRY hC
  have HRY := Lib.hid hRY
  have HC := Lib.hid hC
  have HU := Lib.hid (hu.below hbs)
  have HG0 := Lib.hid hg0
  have HG1 := Lib.hid hg1
  have HBS := Lib.hid hbs
  have HWS := Lib.hid hws
  have HSS := Lib.hid hss
  have HNL : Hid (ms.length = n) := hnl
  have b0 := cell_of_row ws _ 0 _ _ _ hg0
  have b1 := cell_of_row ws _ 1 _ _ _ hg0
  have b2 := cell_of_row ws _ 2 _ _ _ hg0
  have b3 := cell_of_row ws _ 3 _ _ _ hg0
  clear hnl hbp hoct hws hss hbs hg0 hg1 hxs hRY hC hb hr hx hu hE
  go_enter Tryz.func71, Tryz.ntmps71
  go_upto_region 1 with fail
  rw [← HWS.out]
  go_wp2_with fail
  refine HRY.out.mono ?_
  rintro e w1 ⟨rfl, hb1⟩
  have b0 := cell_later hb1 b0
  have b1 := cell_later hb1 b1
  have b2 := cell_later hb1 b2
  have b3 := cell_later hb1 b3
  have HC1 := Lib.hid (HC.out w1 hb1)
  have HB1 := Lib.hid hb1
  clear hb1 HC HRY
  go_wp2_with fail
  refine HC1.out.mono ?_
  rintro e w2 ⟨A', n', c', us', rfl, hro, hal, hb2, -⟩
  have hn' : n' = n := by rw [← hro.len, hal.length, HNL.out]
  subst hn'
  obtain ⟨w3, hw3⟩ : ∃ w3, w3 = w2.alloc (.cells #[.string nm, .int .u32 (ep : Int), .int .u32 (nx : Int), .slice A' n' c'] 49) := ⟨_, rfl⟩
  have hb3 : Below w2.heap.size w2 w3 := by rw [hw3]; exact (Below.refl _ _).alloc (Nat.le_refl _) _
  have hM3 : BoxV w3 w1.heap.size w2.heap.size A' n' c' nm ep nx us' ms := by
    refine ⟨by rw [hw3]; exact heap_alloc_new _ _, hro.below hb3, MsgA.v hal HUID.out, fun e => by have := (hro.lt _ e).2; omega⟩
  have hbw3 : Below ws.heap.size ws w3 := HB1.out.trans ((hb2.trans (hb3.mono hb2.size)).mono HB1.out.size)
  have hres : w3.heap[w.heap.size + 1]? = some (.cells #[.string ⟨#[]⟩, .int .u32 0, .int .u32 0, .slice none 0 0] 49 (0, 0)) := (hbw3.block _ (Array.getElem?_eq_some_iff.1 HG1.out).1).trans HG1.out
  have hs1 : w.heap.size + 2 ≤ w1.heap.size := by rw [← HSS.out]; exact HB1.out.size
  have hs2 := hb2.size
  have HM3 := Lib.hid hM3
  have HBW3 := Lib.hid hbw3
  have HRES3 := Lib.hid hres
  have HW3 := Lib.hid hw3
  have k3 : w3.cell? ⟨w2.heap.size, 3, none⟩ = some (.slice A' n' c') := cell_of_row w3 _ 3 _ _ _ hM3.blk
  clear hw3 hb3 hM3 hbw3 hres hro hal hb2 b0 b1 b2 b3
  unfold boxCells
  go_upto_region 4 with fail
  rw [← HW3.out]
  go_wp2_with fail
  clear k3
  go_loopw [22] (fun v22 wr => ∃ (i : Nat) (us : List (List Value)) (ms' : List Msg), i ≤ n' ∧ v22 = .int .i64 (i : Int) ∧ BoxV wr w1.heap.size w2.heap.size A' n' c' nm ep nx us ms' ∧ wr.heap[w.heap.size + 1]? = some (.cells #[.string ⟨#[]⟩, .int .u32 0, .int .u32 0, .slice none 0 0] 49 (0, 0)) ∧ Below ws.heap.size ws wr) (fun v22 _ => n' - (intOf v22).toNat)
  case atStart => exact ⟨0, us', ms, Nat.zero_le _, rfl, HM3.out, HRES3.out, HBW3.out⟩
  case round =>
    obtain ⟨i, vs', ms', hi, rfl, hm, hres, hb⟩ := hrel
    have HM := Lib.hid hm
    have HRES := Lib.hid hres
    have HB := Lib.hid hb
    clear hm hres hb
    by_cases hlt : i < n'
    · obtain ⟨g', v, rfl, hv, hvl, hc⟩ := HM.out.row.read.at_ hlt
      obtain ⟨x, hxi, B, m, d, rfl, hxu⟩ := HM.out.all.left hv
      have r2 : wr.cell? ⟨g', i * 4 + 2, none⟩ = some (.int .i64 x.flags) := hc 2 _ rfl
      obtain ⟨d37, hu, hd⟩ := rowT row37
      have HU37 := Lib.hid hu
      have HD37 := Lib.hid hd
      unfold msgCells at hc
      have HCC := Lib.hid hc
      have HV := Lib.hid hv
      obtain ⟨wa, hwa⟩ : ∃ wa, wa = wr.alloc (.cells #[.int .u32 (x.uid : Int), .int .i64 x.date, .int .i64 x.flags, .slice B m d] 37) := ⟨_, rfl⟩
      have hba : Below wr.heap.size wr wa := by rw [hwa]; exact (Below.refl _ _).alloc (Nat.le_refl _) _
      have a0 : wa.cell? ⟨wr.heap.size, 0, none⟩ = some (.int .u32 (x.uid : Int)) := by rw [hwa]; exact cell_new wr _ 37 rfl
      have a2 : wa.cell? ⟨wr.heap.size, 2, none⟩ = some (.int .i64 x.flags) := by rw [hwa]; exact cell_new wr _ 37 rfl
      have r2 := cell_later hba r2
      have hMA := HM.out.below hba
      have k3 : wa.cell? ⟨w2.heap.size, 3, none⟩ = some (.slice (some ⟨g', 0, none⟩) n' c') := cell_of_row wa _ 3 _ _ _ hMA.blk
      have rf : ∀ j, wa.frozen? ⟨g', j, none⟩ = false := hMA.row.frozen
      have hresA := (hba.block _ (Array.getElem?_eq_some_iff.1 HRES.out).1).trans HRES.out
      have hbwA := HB.out.trans (hba.mono HB.out.size)
      have HUC := Lib.hid (ucontains_any U un uc x.uid us wa (HU.out.below hbwA) hun)
      have HMA := Lib.hid hMA
      have HRESA := Lib.hid hresA
      have HBA := Lib.hid hbwA
      have HWA := Lib.hid hwa
      clear hwa hba hv hvl hc hxi hu hd hMA hresA hbwA
      go_upto_region 7 with (refine wpList_load_mid rfl 37 (.tmp 25) rfl g' (i * 4) rfl _ d37 HCC.out HU37.out HD37.out size37 ?_)
      rw [← HWA.out]
      go_wp2_with fail
      refine HUC.out.mono ?_
      rintro e wb ⟨⟨b, rfl⟩, rfl⟩
      cases b
      · go_wp2_with fail
        exact ⟨⟨i + 1, vs', ms', hlt, by first | rfl | (congr 1), HMA.out, HRESA.out, HBA.out⟩, by simp [intOf]; omega⟩
      · have k3 : wb.drew.cell? ⟨w2.heap.size, 3, none⟩ = some (.slice (some ⟨g', 0, none⟩) n' c') := k3
        have a2 : wb.drew.cell? ⟨wr.heap.size, 2, none⟩ = some (.int .i64 x.flags) := a2
        have r2 : wb.drew.cell? ⟨g', i * 4 + 2, none⟩ = some (.int .i64 x.flags) := r2
        have rf : ∀ j, wb.drew.frozen? ⟨g', j, none⟩ = false := rf
        go_upto_region 8 with fail
        go_region_law (go_simp; go_at_call 132; refine (change_any _ _ _ _).mono ?_; rintro e w5 ⟨⟨z, rfl⟩, rfl⟩)
        all_goals
          (try go_wp2_with fail)
          obtain ⟨p1, p2⟩ := boxv_flag HMA.out HV.out ⟨B, m, d, rfl⟩ hxu z
          have hgl := HMA.out.row.lt g' rfl
          refine ⟨⟨i + 1, _, _, hlt, by first | rfl | (congr 1), p1.drew, p2.heap HRESA.out (by omega), ?_⟩, by simp [intOf]; omega⟩
          exact (HBA.out.trans (p2.below HBA.out.size (fun b hb e => by have := HSS.out; have := HB1.out.size; omega))).drew
    · obtain rfl : i = n' := by omega
      have k0 : wr.cell? ⟨w2.heap.size, 0, none⟩ = some (.string nm) := cell_of_row wr _ 0 _ _ _ HM.out.blk
      have k1 : wr.cell? ⟨w2.heap.size, 1, none⟩ = some (.int .u32 (ep : Int)) := cell_of_row wr _ 1 _ _ _ HM.out.blk
      have k2 : wr.cell? ⟨w2.heap.size, 2, none⟩ = some (.int .u32 (nx : Int)) := cell_of_row wr _ 2 _ _ _ HM.out.blk
      have k3 : wr.cell? ⟨w2.heap.size, 3, none⟩ = some (.slice A' i c') := cell_of_row wr _ 3 _ _ _ HM.out.blk
      have r0 := cell_of_row wr _ 0 _ _ _ HRES.out
      have r1 := cell_of_row wr _ 1 _ _ _ HRES.out
      have r2 := cell_of_row wr _ 2 _ _ _ HRES.out
      have r3 := cell_of_row wr _ 3 _ _ _ HRES.out
      have rf : ∀ j, wr.frozen? ⟨w.heap.size + 1, j, none⟩ = false := fun j => by simp [World.frozen?, HRES.out]
      go_wp2_with fail
      obtain ⟨hh, ho7⟩ := res4 HRES.out (.string nm) (.int .u32 (ep : Int)) (.int .u32 (nx : Int)) (.slice A' i c')
      generalize hw7 : (((wr.setCell ⟨w.heap.size + 1, 0, none⟩ (.string nm)).setCell ⟨w.heap.size + 1, 1, none⟩ (.int .u32 (ep : Int))).setCell ⟨w.heap.size + 1, 2, none⟩ (.int .u32 (nx : Int))).setCell ⟨w.heap.size + 1, 3, none⟩ (.slice A' i c') = w7 at hh ho7 ⊢
      have hrl := HM.out.row.lt
      have hsz := HSS.out
      have hsz1 := HB1.out.size
      have hrow : RowO w7 w.heap.size 37 4 A' i c' vs' := (HM.out.row.only ho7 (fun q hq e => by have := (hrl q hq).1; omega)).more (fun q hq => by have := (hrl q hq).1; omega)
      have hbw7 : Below w.heap.size w w7 := HBS.out.trans ((HB.out.mono HBS.out.size).trans (ho7.below (by have := HB.out.size; omega) (fun b hb e => by omega)))
      have HH := Lib.hid hh
      have HRW := Lib.hid hrow
      have HAL := Lib.hid HM.out.all
      have HBW7 := Lib.hid hbw7
      clear hw7 ho7 hh hrl hrow hbw7
      try simp only [Exit.inBlock, Exit.then]
      refine bodyPost_ret (results_cell_tmp_row rfl _ _ (w.heap.size + 1) 49 _ (0, 0) rfl HH.out row49 size49) rfl ?_
      exact ⟨A', c', vs', ms', rfl, HRW.out, HAL.out, HBW7.out⟩
end Go.Proofs.YtlhaempecidohaaGreatDoor
