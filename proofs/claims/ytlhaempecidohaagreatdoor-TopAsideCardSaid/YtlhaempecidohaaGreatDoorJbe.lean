/-
  Package store: came.
-/
import Derived.Test.YtlhaempecidohaaGreatDoorJbc
import Derived.Test.YtlhaempecidohaaGreatDoorJbd
import Derived.Test.YtlhaempecidohaaGreatDoorJay
set_option linter.unusedSimpArgs false
set_option linter.unusedVariables false
namespace Go.Proofs.YtlhaempecidohaaGreatDoor
open Go.RowKit
def cameN (nm : ByteArray) (ep : Nat) (m : Msg) : Note := ⟨2, ep, nm, m⟩
theorem inf134 : (Tryz.prog.info? 134).map (fun i => (i.zero, i.size, i.bytes)) = some (some (.agg #[.int .i64 0, .int .u32 0, .string ⟨#[]⟩, .int .u32 0, .int .i64 0, .int .i64 0, .slice none 0 0]), 7, 80) := by kernel_rfl
theorem und128 : Tryz.prog.underlying 128 = some (.slice 134) := by kernel_rfl
theorem msg_at {w : World} {gB n j : Nat} {A : Option Addr} {vs : List (List Value)} {bs : List Msg} {x : Msg} (hr : RowR w (some ⟨gB, 0, none⟩) n 4 vs) (hx : All2 (MsgA w A) vs bs) (hj : j < n) (hm : bs[j]? = some x) :
    ∃ B m d, w.cell? ⟨gB, j * 4, none⟩ = some (.int .u32 (x.uid : Int)) ∧ w.cell? ⟨gB, j * 4 + 1, none⟩ = some (.int .i64 x.date) ∧ w.cell? ⟨gB, j * 4 + 2, none⟩ = some (.int .i64 x.flags) ∧ w.cell? ⟨gB, j * 4 + 3, none⟩ = some (.slice B m d) ∧ RB w B m x.oct ∧ m ≤ d := by
  obtain ⟨g', v, hA', hv, -, hc⟩ := hr.at_ hj
  injection hA' with hA'
  injection hA' with hA'
  subst hA'
  obtain ⟨x', hx', B, m, d, rfl, hrb, hmd, -⟩ := hx.left hv
  rw [hm] at hx'
  injection hx' with hx'
  subst hx'
  exact ⟨B, m, d, hc 0 _ rfl, hc 1 _ rfl, hc 2 _ rfl, hc 3 _ rfl, hrb, hmd⟩
/-- what came hands back -/
def CameE (w : World) (nm : ByteArray) (ep : Nat) (ms : List Msg) (e : Ending) (w' : World) : Prop :=
  ∃ (A : Option Addr) (c : Nat) (vs : List (List Value)), e = .returned (.slice A ms.length c) ∧ RowO w' w.heap.size 134 7 A ms.length c vs ∧ All2 (NoteR w') vs (ms.map (cameN nm ep)) ∧ Below w.heap.size w w'
set_option maxRecDepth 8000 in
set_option maxHeartbeats 30000000 in
theorem came_any (nm : ByteArray) (ep nx : Nat) (A U : Option Addr) (n c k kc : Nat) (vs : List (List Value)) (bs ms : List Msg) (us : List Nat) (w : World) (hr : RowR w A n 4 vs) (hx : All2 (MsgA w A) vs bs) (hn : n ≤ 10000000)
    (hu : RowR w U k 1 (us.map uV)) (hk : k ≤ 10000000) (hf : us.map (fun u => bs.find? fun m => decide (m.uid = u)) = ms.map some) :
    Calls Tryz.prog 70 #[.agg (boxCells nm ep nx (.slice A n c)).toArray, .slice U k kc] w (CameE w nm ep ms) := by
  have hml : ms.length = k := by
    have h1 := congrArg List.length hf
    have h2 := hu.len
    rw [List.length_map] at h2
    rw [List.length_map, List.length_map] at h1
    omega
  obtain ⟨ws, hws⟩ : ∃ ws, ws = w.alloc (.cells (boxCells nm ep nx (.slice A n c)).toArray 49) := ⟨_, rfl⟩
  have hbs : Below w.heap.size w ws := by rw [hws]; exact (Below.refl _ _).alloc (Nat.le_refl _) _
  have hg0 : ws.heap[w.heap.size]? = some (.cells (boxCells nm ep nx (.slice A n c)).toArray 49 (0, 0)) := by rw [hws]; exact heap_alloc_new w _
  unfold boxCells at hws hg0 ⊢
  have HR := Lib.hid (hr.below hbs)
  have HX := Lib.hid (hx.mono (MsgA.below hbs))
  have HU := Lib.hid (hu.below hbs)
  have HF := Lib.hid hf
  have HG0 := Lib.hid hg0
  have HBS := Lib.hid hbs
  have HWS := Lib.hid hws
  have HML : Hid (ms.length = k) := hml
  clear hr hx hu hf hg0 hbs hws hml
  go_enter Tryz.func70, Tryz.ntmps70
  go_upto_region 2 with fail
  rw [← HWS.out]
  go_wp2_with fail
  go_loopw [5, 10] (fun v5 v10 wr => ∃ (i : Nat) (G : Option Addr) (gc : Nat) (gs : List (List Value)), i ≤ k ∧ v5 = .slice G i gc ∧ v10 = .int .i64 (i : Int) ∧ RowO wr ws.heap.size 134 7 G i gc gs ∧ All2 (NoteR ws) gs ((ms.take i).map (cameN nm ep)) ∧ Below ws.heap.size ws wr) (fun _ v10 _ => k - (intOf v10).toNat)
  case atStart => exact ⟨0, none, 0, [], Nat.zero_le _, rfl, rfl, RowO.nil _ _ _ _, trivial, Below.refl _ _⟩
  case round =>
    obtain ⟨i, G, gc, gs, hi, rfl, rfl, hrow, hall, hb⟩ := hrel
    have HROW := Lib.hid hrow
    have HALL := Lib.hid hall
    have HB := Lib.hid hb
    clear hrow hall hb
    by_cases hlt : i < k
    · obtain ⟨gU, u, rfl, hui, hcu⟩ := (HU.out.below HB.out).map hlt
      have hcell : wr.cell? ⟨gU, i, none⟩ = some (.int .u32 (u : Int)) := by have := hcu 0 _ rfl; rwa [Nat.mul_one, Nat.add_zero] at this
      obtain ⟨x, hxi⟩ : ∃ x, ms[i]? = some x := ⟨_, List.getElem?_eq_getElem (by rw [HML.out]; exact hlt)⟩
      have hfind : bs.find? (fun m => decide (m.uid = u)) = some x := by
        have h1 : (us.map (fun u => bs.find? fun m => decide (m.uid = u)))[i]? = some (bs.find? fun m => decide (m.uid = u)) := by rw [List.getElem?_map, hui]; rfl
        rw [HF.out, List.getElem?_map, hxi] at h1
        injection h1 with h1
        exact h1.symm
      have htk : ms.take (i + 1) = ms.take i ++ [x] := by
        obtain ⟨h1, h2⟩ := List.getElem?_eq_some_iff.1 hxi
        rw [List.take_succ_eq_append_getElem h1, h2]
      have HTK := Lib.hid htk
      have hg0r := (HB.out.block _ (Array.getElem?_eq_some_iff.1 HG0.out).1).trans HG0.out
      have b0 := cell_of_row wr _ 0 _ _ _ hg0r
      have b1 := cell_of_row wr _ 1 _ _ _ hg0r
      have b2 := cell_of_row wr _ 2 _ _ _ hg0r
      have b3 := cell_of_row wr _ 3 _ _ _ hg0r
      have hAT := at_any nm ep nx u A n c vs bs x wr.drew ((HR.out.below HB.out).heap rfl) ((HX.out.mono (MsgA.below HB.out)).mono (fun v m h => MsgA.r v m h)) hn hfind
      unfold boxCells at hAT
      have HAT := Lib.hid hAT
      have hn0 : 0 < n := by
        have h1 := List.mem_of_find?_eq_some hfind
        have h2 : bs.length = n := by rw [← HX.out.length]; exact HR.out.len
        have := List.length_pos_of_mem h1
        omega
      obtain ⟨gB, hAB, -⟩ := HR.out.cells hn0
      subst hAB
      clear hui hcu hxi hfind htk hg0r hAT
      go_upto_region 5 with fail
      go_region_law (first
        | (refine step_append_row rfl (.tmp 14) (.tmp 27) 128 134 7 _ 80 und128 inf134 rfl (by decide) (by decide) rfl rfl rfl (HRW5.out.below ((Below.refl _ _).alloc (Nat.le_refl _) _)) (range_new w5 (noteCells (cameN nm ep x) (.slice B m d)) 134) rfl (by simp [noteCells, msgCells, Value.oneCell']) (by omega) (by simp; omega) ?_; intro G6 c6 w6 hro6 ho6 hbk6; have HRO6 := Lib.hid hro6; have HO6 := Lib.hid ho6; have hb6 := (Below.refl w5.heap.size w5).alloc (Nat.le_refl _) (.cells (noteCells (cameN nm ep x) (.slice B m d)).toArray 134); have HB6 := Lib.hid hb6; clear hro6 ho6 hbk6 hb6)
        | (go_simp; go_at_call 130; refine HAT.out.mono ?_; rintro e w5 ⟨⟨j, hj, rfl, hm⟩, hb5⟩; have HM := Lib.hid hm; have HB5 := Lib.hid hb5; have b0 := cell_later hb5 b0; have b1 := cell_later hb5 b1; have b3 := cell_later hb5 b3; have hbw5 : Below ws.heap.size ws w5 := HB.out.drew.trans (hb5.mono HB.out.size); obtain ⟨B, m, d, r0, r1, r2, r3, hrb, hmd⟩ := msg_at HR.out HX.out hj hm; have r0 := cell_later hbw5 r0; have r1 := cell_later hbw5 r1; have r2 := cell_later hbw5 r2; have r3 := cell_later hbw5 r3; have HRB := Lib.hid hrb; have HBW5 := Lib.hid hbw5; have HRW5 := Lib.hid ((HROW.out.only (Only.refl (fun _ => False) wr).drew (fun _ _ h => h)).below hb5); have hz5 : ws.heap.size ≤ w5.heap.size := hbw5.size; have HMJ := Lib.hid hm; clear hm hb5 hrb hbw5))
      all_goals
        (try go_wp2_with fail)
        have hrl := HRW5.out.lt
        refine ⟨⟨i + 1, G6, c6, gs ++ [noteCells (cameN nm ep x) (.slice B m d)], hlt, rfl, by first | rfl | (congr 1), HRO6.out, ?_, ?_⟩, by simp [intOf]; omega⟩
        · rw [HTK.out, List.map_append]
          exact HALL.out.snoc ⟨B, m, d, rfl, HRB.out, hmd⟩
        · exact HBW5.out.trans ((HB6.out.mono hz5).trans (HO6.out.below (Nat.le_trans hz5 HB6.out.size) (fun b hb e => by have := (hrl b e).1; omega)))
    · obtain rfl : i = k := by omega
      have hall := HALL.out
      rw [List.take_of_length_le (by rw [HML.out]; exact Nat.le_refl _)] at hall
      have HA := Lib.hid (hall.mono (NoteR.below HB.out))
      have HRW := Lib.hid (HROW.out.more (B := w.heap.size) (fun q hq => Nat.le_trans HBS.out.size (HROW.out.lt q hq).1))
      have HBW := Lib.hid (HBS.out.trans (HB.out.mono HBS.out.size))
      clear hall
      go_wp2_with fail
      go_ret
      refine ⟨G, gc, gs, by rw [HML.out]; rfl, ?_, HA.out, HBW.out⟩
      rw [HML.out]
      exact HRW.out
end Go.Proofs.YtlhaempecidohaaGreatDoor
