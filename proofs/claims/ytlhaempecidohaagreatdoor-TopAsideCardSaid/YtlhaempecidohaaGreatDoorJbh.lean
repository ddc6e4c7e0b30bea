/-
  Package index: GetFlags of a page that PutFlags wrote.
-/
import Derived.Test.YtlhaempecidohaaGreatDoorJbg
import Derived.Test.YtlhaempecidohaaGreatDoorJbf
set_option linter.unusedSimpArgs false
set_option linter.unusedVariables false
namespace Go.Proofs.YtlhaempecidohaaGreatDoor
open Go.RowKit
theorem InP.only {K S : Nat → Prop} {w w' : World} {g : Nat} {i : InM} (h : InP K w g i) (ho : Only S w w') (hg : ¬ S g) (hk : ∀ q, K q → ¬ S q) : InP K w' g i := by
  obtain ⟨A, n, c, h1, h2, h3, h4, h5⟩ := h
  exact ⟨A, n, c, ho.heap h1 hg, h2.only ho (fun q hq => hk q (h5 q hq)), h3, h4, h5⟩
theorem InP.lt {K : Nat → Prop} {w : World} {g : Nat} {i : InM} (h : InP K w g i) : g < w.heap.size := (Array.getElem?_eq_some_iff.1 h.choose_spec.choose_spec.choose_spec.1).1
/-- in the midst of GetFlags: the In at g6, the flags at g7, their row -/
structure FlM (w : World) (g2 g6 g7 : Nat) (ep : Nat) (A : Option Addr) (c i : Nat) (ms : List (Nat × Int)) (r : List Nat) : Prop where
  inp : InP (fun q => q < g6) w g6 ⟨r, false⟩
  blk : w.heap[g7]? = some (.cells #[.int .u32 (ep : Int), .slice A i c] 151 (0, 0))
  row : RowO w (g7 + 1) 160 2 A i c (ms.map markV)
  res : w.heap[g2]? = some (.cells #[.int .u32 0, .slice none 0 0] 151 (0, 0))
  lt1 : g2 < g6
  lt2 : g6 < g7
section
variable {w w' : World} {g2 g6 g7 ep c i : Nat} {A : Option Addr} {ms : List (Nat × Int)} {r r' : List Nat}
theorem FlM.turn (h : FlM w g2 g6 g7 ep A c i ms r) (hi : InP (fun q => q < g6) w' g6 ⟨r', false⟩) (ho : Only (fun k => k = g6) w w') : FlM w' g2 g6 g7 ep A c i ms r' := by
  have h1 := h.lt1
  have h2 := h.lt2
  exact ⟨hi, ho.heap h.blk (by omega), h.row.only ho (fun q hq e => by have := (h.row.lt q hq).1; omega), ho.heap h.res (by omega), h1, h2⟩
end
theorem FlM.drew {w : World} {g2 g6 g7 ep c i : Nat} {A : Option Addr} {ms : List (Nat × Int)} {r : List Nat} (h : FlM w g2 g6 g7 ep A c i ms r) : FlM w.drew g2 g6 g7 ep A c i ms r := ⟨h.inp, h.blk, h.row.only (Only.refl (fun _ => False) w).drew (fun _ _ h => h), h.res, h.lt1, h.lt2⟩
theorem fl_more {w w4 w5 : World} {g2 g6 g7 ep c i : Nat} {A A5 : Option Addr} {c5 : Nat} {ms : List (Nat × Int)} {r : List Nat} {e : Nat × Int} (h : FlM w g2 g6 g7 ep A c i ms r) (hb4 : Below w.heap.size w w4)
    (hr5 : RowO w5 (g7 + 1) 160 2 A5 (i + 1) c5 (ms.map markV ++ [markV e])) (ho5 : Only (fun b => blk A = some b) w4 w5) :
    FlM (w5.setCell ⟨g7, 1, none⟩ (.slice A5 (i + 1) c5)) g2 g6 g7 ep A5 c5 (i + 1) (ms ++ [e]) r ∧ Only (fun b => b = g7 ∨ blk A = some b) w (w5.setCell ⟨g7, 1, none⟩ (.slice A5 (i + 1) c5)) := by
  have h1 := h.lt1
  have h2 := h.lt2
  have hA : ∀ q, blk A = some q → g7 + 1 ≤ q := fun q hq => (h.row.lt q hq).1
  have q7 := (hb4.block g7 (Array.getElem?_eq_some_iff.1 h.blk).1).trans h.blk
  have q2 := (hb4.block g2 (Array.getElem?_eq_some_iff.1 h.res).1).trans h.res
  have q6 := h.inp.below hb4
  have ho6 : Only (fun b => b = g7) w5 (w5.setCell ⟨g7, 1, none⟩ (.slice A5 (i + 1) c5)) := (Only.refl (fun b => b = g7) w5).setCell (p := ⟨g7, 1, none⟩) (.inl rfl) _
  refine ⟨⟨?_, blk_set (ho5.heap q7 (fun e => by have := hA _ e; omega)) 1 _, ?_, ?_, h1, h2⟩, ?_⟩
  · exact (q6.only ho5 (fun e => by have := hA _ e; omega) (fun q hq e => by have := hA _ e; omega)).only ho6 (by omega) (fun q hq e => by omega)
  · rw [List.map_append]
    exact hr5.only ho6 (fun q hq e => by have := (hr5.lt q hq).1; omega)
  · exact ho6.heap (ho5.heap q2 (fun e => by have := hA _ e; omega)) (by omega)
  · exact ((Only.of_below hb4 (fun b => b = g7 ∨ blk A = some b)).trans ho5 (fun _ _ h => .inr h)).trans ho6 (fun _ _ h => .inl h)
/-- what GetFlags hands back -/
def GotF (w : World) (x : FlgS) (e : Ending) (w' : World) : Prop :=
  ∃ A m c, e = .returned (.tuple #[.agg (flgCells x (.slice A m c)).toArray, .int .i64 0]) ∧ RowO w' w.heap.size 160 2 A m c (x.L.map markV) ∧ Below w.heap.size w w'
set_option maxRecDepth 8000 in
set_option maxHeartbeats 3000000 in
theorem getFlg_any (x : FlgS) (A : Option Addr) (n c : Nat) (w : World) (hr : RB w A n (flgB x)) (hnc : n ≤ c) (hx : rightFlg x = true) (hw : x.wf) :
    Calls Tryz.prog 86 #[.slice A n c] w (GotF w x) := by
  obtain ⟨hfl, h500⟩ := flg_all hx
  have hbl := rightFlg_bytes hx
  have hn : n ≤ 100000 := by rw [← hr.1]; omega
  obtain ⟨w1, hw1⟩ : ∃ w1, w1 = w.alloc (.cells #[.int .u32 0, .slice none 0 0] 151) := ⟨_, rfl⟩
  have hb1 : Below w.heap.size w w1 := by rw [hw1]; exact (Below.refl _ _).alloc (Nat.le_refl _) _
  have hg2 : w1.heap[w.heap.size]? = some (.cells #[.int .u32 0, .slice none 0 0] 151 (0, 0)) := by rw [hw1]; exact heap_alloc_new w _
  have hG := get_ok 2 A n c (flgB x) w1 (hr.below hb1) hnc hn (page_isPage 2 _ (by omega) (by omega) (by have := rightFlg_len hx; omega))
  have hpay : payload (flgB x) = flgP x := payload_page 2 _
  have hP := fun (A' : Option Addr) (n' c' : Nat) (w' : World) (hr' : RowR w' A' n' 2 (x.L.map markV)) (hn' : n' ≤ 10000000) => putFlg_any x A' n' c' w' hr' hn' hw
  unfold PutF at hP
  simp only [hx, if_true] at hP
  rw [hpay] at hG
  have hpl : flgP x = beb x.epoch 4 ++ (beb x.L.length 2 ++ x.L.flatMap markB) := by unfold flgP; rw [List.append_assoc]
  rw [hpl] at hG
  have hplen : (beb x.epoch 4 ++ (beb x.L.length 2 ++ x.L.flatMap markB)).length ≤ 3000 := by rw [← hpl]; exact rightFlg_len hx
  have hep : x.epoch < 256 ^ 4 := hw.epoch
  have wep : IntKind.u32.wrap (x.epoch : Int) = (x.epoch : Int) := by rw [IntKind.wrap_u32]; omega
  have HFL := Lib.hid hfl
  have HR := Lib.hid hr
  have HW := Lib.hid hw
  have HP := Lib.hid hP
  have HG := Lib.hid hG
  have HB1 := Lib.hid hb1
  have HG2 := Lib.hid hg2
  have HW1 := Lib.hid hw1
  have HPL := Lib.hid hplen
  clear hfl hr hw hP hG hb1 hg2 hw1 hpl hx hbl hpay hplen
  go_enter Tryz.func86, Tryz.ntmps86
  go_upto_region 1 with fail
  rw [show w.alloc _ = w1 from HW1.out.symm]
  go_wp2_with fail
  refine HG.out.mono ?_
  rintro e w2 ⟨A2, n2, c2, rfl, hown, hb2⟩
  have hI := newIn A2 n2 c2 _ w2 hown.read (by rw [← hown.read.1]; have := HPL.out; omega)
  have HI := Lib.hid hI
  have HB2 := Lib.hid hb2
  clear hown hb2 hI HG
  go_wp2_with fail
  refine HI.out.mono ?_
  rintro e w3 ⟨g6, rfl, hg6, -, hb3, hi3⟩
  have hi3 := hi3.mono (K' := fun q => q < g6) (fun _ h => h.2)
  have HB3 := Lib.hid hb3
  clear hb3 HI
  go_wp2_with fail
  refine (in_num g6 x.epoch 4 _ w3 hi3 (by omega) (by omega) hep).mono ?_
  rintro e w4 ⟨rfl, hi4, ho4⟩
  have hlt6 := hi4.lt
  have hs12 := HB1.out.size
  have hs23 := HB2.out.size
  have hs34 := HB3.out.size
  have hsz1 : w.heap.size < w1.heap.size := (Array.getElem?_eq_some_iff.1 HG2.out).1
  have hm4 : FlM (w4.alloc (.cells #[.int .u32 (x.epoch : Int), .slice none 0 0] 151)) w.heap.size g6 w4.heap.size x.epoch none 0 0 [] (beb x.L.length 2 ++ x.L.flatMap markB) := by
    refine ⟨hi4.below ((Below.refl _ _).alloc (Nat.le_refl _) _), heap_alloc_new _ _, RowO.nil _ _ _ _, ?_, by omega, hlt6⟩
    rw [Below.heap_alloc _ _ _ (by omega)]
    exact ho4.heap ((HB3.out.block _ (by omega)).trans ((HB2.out.block _ hsz1).trans HG2.out)) (by omega)
  have hbw4 : Below w1.heap.size w1 (w4.alloc (.cells #[.int .u32 (x.epoch : Int), .slice none 0 0] 151)) :=
    (((HB2.out.trans (HB3.out.mono HB2.out.size)).trans (ho4.below (by omega) (fun b hb e => by omega)))).alloc (by omega) _
  obtain ⟨w5, hw5⟩ : ∃ w5, w5 = w4.alloc (.cells #[.int .u32 (x.epoch : Int), .slice none 0 0] 151) := ⟨_, rfl⟩
  rw [← hw5] at hm4 hbw4
  have HW5 := Lib.hid hw5
  have HM4 := Lib.hid hm4
  have HBW4 := Lib.hid hbw4
  clear hi3 hi4 ho4 hm4 hbw4 hw5
  go_upto_region 6 with fail
  rw [← HW5.out]
  go_wp2_with fail
  refine (in_num g6 x.L.length 2 _ w5 HM4.out.inp (by omega) (by omega) (by omega)).mono ?_
  rintro e w6 ⟨rfl, hi6, ho6⟩
  have HM6 := Lib.hid (HM4.out.turn hi6 ho6)
  have HBW6 : Hid (Below w1.heap.size w1 w6) := HBW4.out.trans (ho6.below HBW4.out.size (fun b hb e => by omega))
  clear hi6 ho6
  obtain ⟨N, hN⟩ : ∃ N, x.L.length = N := ⟨_, rfl⟩
  rw [hN] at h500 ⊢
  have HN := Lib.hid hN
  clear hN
  generalize hg7 : w4.heap.size = g7 at *
  have hg76 : g6 < g7 := by omega
  clear hg7
  go_wp2_with fail
  go_loopw [27] (fun v27 wr => ∃ (i : Nat) (A' : Option Addr) (c' : Nat), i ≤ N ∧ v27 = .int .i64 (i : Int) ∧ FlM wr w.heap.size g6 g7 x.epoch A' c' i (x.L.take i) ((x.L.drop i).flatMap markB) ∧ Below w1.heap.size w1 wr) (fun v27 _ => N - (intOf v27).toNat)
  case atStart => exact ⟨0, none, 0, Nat.zero_le _, rfl, HM6.out, HBW6.out⟩
  case round =>
    obtain ⟨i, A', c', hi, rfl, hm, hb⟩ := hrel
    have HM := Lib.hid hm
    have HB := Lib.hid hb
    clear hm hb
    by_cases hlt : i < N
    · obtain ⟨e, he⟩ : ∃ e, x.L[i]? = some e := ⟨_, List.getElem?_eq_getElem (by rw [HN.out]; exact hlt)⟩
      obtain ⟨hil, hie⟩ := List.getElem?_eq_some_iff.1 he
      obtain ⟨hf0, hf1⟩ := HFL.out e (List.mem_of_getElem? he)
      have hue := HW.out.uids e (List.mem_of_getElem? he)
      obtain ⟨u, f⟩ := e
      dsimp only at hf0 hf1 hue
      obtain ⟨f', rfl⟩ := Int.eq_ofNat_of_zero_le hf0
      have wui : IntKind.u32.wrap (u : Int) = (u : Int) := by rw [IntKind.wrap_u32]; omega
      have hdr : (x.L.drop i).flatMap markB = beb u 4 ++ (beb f' 1 ++ (x.L.drop (i + 1)).flatMap markB) := by
        rw [List.drop_eq_getElem_cons hil, List.flatMap_cons, hie]
        unfold markB
        rw [List.append_assoc]
        rfl
      have htk : x.L.take (i + 1) = x.L.take i ++ [(u, (f' : Int))] := by
        rw [List.take_succ_eq_append_getElem hil, hie]
      have hm := HM.out
      rw [hdr] at hm
      have HMM := Lib.hid hm.drew
      have HTK := Lib.hid htk
      have hsz7 : g7 < wr.heap.size := (Array.getElem?_eq_some_iff.1 hm.blk).1
      have k1 : wr.cell? ⟨g7, 1, none⟩ = some (.slice A' i c') := cell_of_row wr _ 1 _ _ _ hm.blk
      clear he hil hie hf0 hdr htk hm HM
      go_upto_region 8 with fail
      go_region_law (first
        | (go_simp; go_at_call 115; first
            | (refine (in_num g6 f' 1 _ _ HM1.out.inp (by omega) (by omega) (by omega)).mono ?_; rintro e v2 ⟨rfl, hi2, ho2⟩; have HM2 := Lib.hid (HM1.out.turn hi2 ho2); have HO2 := Lib.hid ho2; have hsz7 := (Array.getElem?_eq_some_iff.1 HM2.out.blk).1; have k1 := cell_of_row v2 g7 1 _ _ _ HM2.out.blk; clear hi2 ho2)
            | (refine (in_num g6 u 4 _ _ HMM.out.inp (by omega) (by omega) hue).mono ?_; rintro e v1 ⟨rfl, hi1, ho1⟩; have HM1 := Lib.hid (HMM.out.turn hi1 ho1); have HO1 := Lib.hid ho1; have k1 := cell_of_row v1 g7 1 _ _ _ HM1.out.blk; clear hi1 ho1))
        | (refine step_append_row rfl (.tmp 30) (.tmp 37) 89 160 2 _ 16 und89 inf160 rfl (by decide) (by decide) rfl rfl rfl (HM2.out.row.below ((Below.refl _ _).alloc (Nat.le_refl _) _)) (range_new v2 (markV (u, (f' : Int))) 160) rfl (by simp [markV, Value.oneCell']) (by omega) (by simp; omega) ?_; intro A5 c5 w5 hro5 ho5 hbk5; have hb4 := (Below.refl v2.heap.size v2).alloc (Nat.le_refl _) (.cells (markV (u, (f' : Int))).toArray 160); have h75 := ho5.heap ((hb4.block _ (Array.getElem?_eq_some_iff.1 HM2.out.blk).1).trans HM2.out.blk) (fun e => by have := (HM2.out.row.lt _ e).1; omega); have H75 := Lib.hid h75; have m3 : w5.cell? ⟨g7, 1, none⟩ = some (.slice A' i c') := cell_of_row w5 _ 1 _ _ _ H75.out; have mf : ∀ j, w5.frozen? ⟨g7, j, none⟩ = false := (fun j => by simp [World.frozen?, H75.out]); have HB4 := Lib.hid hb4; have HRO5 := Lib.hid hro5; have HO5 := Lib.hid ho5; clear hro5 ho5 hbk5 hb4 h75))
      all_goals
        (try go_wp2_with fail)
        obtain ⟨k1, k2⟩ := fl_more HM2.out HB4.out HRO5.out HO5.out
        have hz0 : w1.heap.size ≤ wr.drew.heap.size := HB.out.size
        have hz1 : w1.heap.size ≤ v1.heap.size := Nat.le_trans hz0 HO1.out.size
        have hz2 : w1.heap.size ≤ v2.heap.size := Nat.le_trans hz1 HO2.out.size
        have hrl := HM2.out.row.lt
        refine ⟨⟨i + 1, A5, c5, hlt, by first | rfl | (congr 1), by rw [HTK.out]; exact k1, ?_⟩, by simp [intOf]; omega⟩
        exact HB.out.drew.trans ((HO1.out.below hz0 (fun b hb e => by omega)).trans ((HO2.out.below hz1 (fun b hb e => by omega)).trans (k2.below hz2 (fun b hb e => by
          rcases e with e | e
          · omega
          · have := (hrl b e).1; omega))))
    · obtain rfl : i = N := by omega
      have hm := HM.out
      rw [List.take_of_length_le (by rw [HN.out]; exact Nat.le_refl _), List.drop_eq_nil_of_le (by rw [HN.out]; exact Nat.le_refl _)] at hm
      have HM' := Lib.hid hm
      have k0 : wr.cell? ⟨g7, 0, none⟩ = some (.int .u32 (x.epoch : Int)) := cell_of_row wr _ 0 _ _ _ hm.blk
      have k1 : wr.cell? ⟨g7, 1, none⟩ = some (.slice A' i c') := cell_of_row wr _ 1 _ _ _ hm.blk
      have hp := HP.out A' i c' wr hm.row.read (by omega)
      unfold flgCells at hp
      have HPP := Lib.hid hp
      clear hm hp HM HP
      go_wp2_with fail
      refine HPP.out.mono ?_
      rintro e v3 ⟨A3, n3, c3, rfl, hown, hb3⟩
      have hbw3 := HB1.out.trans ((HB.out.trans (hb3.mono HB.out.size)).mono HB1.out.size)
      have hrb3 := HR.out.below hbw3
      have hs := same_any A3 A n3 c3 n c _ _ v3 hown.read hrb3
      rw [decide_eq_true rfl] at hs
      have k0 := cell_later hb3 k0
      have k1 := cell_later hb3 k1
      have hres := (hb3.block _ (Array.getElem?_eq_some_iff.1 HM'.out.res).1).trans HM'.out.res
      have HS := Lib.hid hs
      have HBW3 := Lib.hid hbw3
      have HROW := Lib.hid (HM'.out.row.below hb3)
      have HRES := Lib.hid hres
      clear hown hb3 hbw3 hrb3 hs hres
      have r0 := cell_of_row v3 _ 0 _ _ _ HRES.out
      have r1 := cell_of_row v3 _ 1 _ _ _ HRES.out
      have rf : ∀ j, v3.frozen? ⟨w.heap.size, j, none⟩ = false := fun j => by simp [World.frozen?, HRES.out]
      have hg27 : ¬ w.heap.size = g7 := by omega
      go_wp2_with fail
      refine HS.out.mono ?_
      rintro e v4 ⟨rfl, rfl⟩
      go_wp2_with fail
      obtain ⟨w7, hw7⟩ : ∃ w7, w7 = (v4.setCell ⟨w.heap.size, 0, none⟩ (.int .u32 (x.epoch : Int))).setCell ⟨w.heap.size, 1, none⟩ (.slice A' i c') := ⟨_, rfl⟩
      have ho7 : Only (fun b => b = w.heap.size) v4 w7 := by
        rw [hw7]
        exact ((Only.refl (fun b => b = w.heap.size) v4).setCell (p := ⟨w.heap.size, 0, none⟩) (.inl rfl) _).setCell (p := ⟨w.heap.size, 1, none⟩) (.inl rfl) _
      have hh : w7.heap[w.heap.size]? = some (.cells (flgCells x (.slice A' i c')).toArray 151 (0, 0)) := by
        rw [hw7]
        exact blk_set (blk_set HRES.out 0 _) 1 _
      have hrow : RowO w7 w.heap.size 160 2 A' i c' (x.L.map markV) := (HROW.out.only ho7 (fun q hq e => by have := (HROW.out.lt q hq).1; omega)).more (fun q hq => by have := (HROW.out.lt q hq).1; omega)
      have hbw7 : Below w.heap.size w w7 := HBW3.out.trans (ho7.below HBW3.out.size (fun b hb e => by omega))
      have HH := Lib.hid hh
      have HRW := Lib.hid hrow
      have HBW7 := Lib.hid hbw7
      have HW7 := Lib.hid hw7
      clear hw7 ho7 hh hrow hbw7
      rw [← HW7.out]
      try simp only [Exit.inBlock, Exit.then]
      refine bodyPost_ret (results_cell_tmp_row rfl _ _ w.heap.size 151 _ (0, 0) rfl HH.out row151 size151) rfl ?_
      exact ⟨A', i, c', rfl, HRW.out, HBW7.out⟩
end Go.Proofs.YtlhaempecidohaaGreatDoor
