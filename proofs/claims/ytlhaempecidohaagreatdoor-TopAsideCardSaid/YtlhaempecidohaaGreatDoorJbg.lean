/-
  Package store: pages, the walk. Package store: uids, on flags of just the messages of an index. Package index: rightTree, on trees that are right. Package index: PutTree, same.
-/
import Derived.Test.YtlhaempecidohaaGreatDoorJbf
import Derived.Lib.QuietBelow
import Derived.BigQuiet
import Derived.Test.YtlhaempecidohaaGreatDoorJba
import Derived.Test.YtlhaempecidohaaGreatDoorJak
set_option linter.unusedSimpArgs false
set_option linter.unusedVariables false
namespace Go.Proofs.YtlhaempecidohaaGreatDoor
open Go.RowKit
/-- in the midst of pages -/
structure PgM (w : World) (base g7 g8 : Nat) (X : IdxS) (A1 : Option Addr) (c1 ep : Nat) (A2 : Option Addr) (c2 m : Nat) (ms : List (Nat × Int)) : Prop where
  b7 : w.heap[g7]? = some (.cells (idxCells X (.slice A1 m c1)).toArray 149 (0, 0))
  b8 : w.heap[g8]? = some (.cells #[.int .u32 (ep : Int), .slice A2 m c2] 151 (0, 0))
  r1 : RowO w base 226 2 A1 m c1 (X.L.map entV)
  r2 : RowO w base 160 2 A2 m c2 (ms.map markV)
section
variable {w w' : World} {base g7 g8 c1 ep c2 m : Nat} {X : IdxS} {A1 A2 : Option Addr} {ms : List (Nat × Int)}
theorem PgM.below (h : PgM w base g7 g8 X A1 c1 ep A2 c2 m ms) (hb : Below w.heap.size w w') : PgM w' base g7 g8 X A1 c1 ep A2 c2 m ms :=
  ⟨(hb.block g7 (Array.getElem?_eq_some_iff.1 h.b7).1).trans h.b7, (hb.block g8 (Array.getElem?_eq_some_iff.1 h.b8).1).trans h.b8, h.r1.below hb, h.r2.below hb⟩
end
theorem pg_set {w : World} {base g7 g8 c1 ep g2 c2 m i u : Nat} {X : IdxS} {A1 : Option Addr} {ms : List (Nat × Int)} {f z : Int} (h : PgM w base g7 g8 X A1 c1 ep (some ⟨g2, 0, none⟩) c2 m ms) (hi : ms[i]? = some (u, f)) :
    PgM (w.setCell ⟨g2, i * 2 + 1, none⟩ (.int .i64 z)) base g7 g8 X A1 c1 ep (some ⟨g2, 0, none⟩) c2 m (ms.set i (u, z)) ∧ Only (fun b => b = g2) w (w.setCell ⟨g2, i * 2 + 1, none⟩ (.int .i64 z)) := by
  have hv : (ms.map markV)[i]? = some (markV (u, f)) := by rw [List.getElem?_map, hi]; rfl
  obtain ⟨p1, p2⟩ := h.r2.put1 hv (j := 1) (by omega) (.int .i64 z)
  have n7 : ¬ g7 = g2 := fun e => h.r2.neb h.b7 (by decide) (by rw [e]; rfl)
  have n8 : ¬ g8 = g2 := fun e => h.r2.neb h.b8 (by decide) (by rw [e]; rfl)
  refine ⟨⟨p2.heap h.b7 n7, p2.heap h.b8 n8, h.r1.only p2 (fun q hq e => h.r2.apart h.r1 (by decide) q hq (by rw [e]; rfl)), ?_⟩, p2⟩
  have e : (ms.map markV).set i ((markV (u, f)).set 1 (.int .i64 z)) = (ms.set i (u, z)).map markV := by rw [List.map_set]; rfl
  rw [← e]
  exact p1
theorem PgM.drew {w : World} {base g7 g8 c1 ep c2 m : Nat} {X : IdxS} {A1 A2 : Option Addr} {ms : List (Nat × Int)} (h : PgM w base g7 g8 X A1 c1 ep A2 c2 m ms) : PgM w.drew base g7 g8 X A1 c1 ep A2 c2 m ms :=
  ⟨h.b7, h.b8, h.r1.only (Only.refl (fun _ => False) w).drew (fun _ _ h => h), h.r2.only (Only.refl (fun _ => False) w).drew (fun _ _ h => h)⟩
theorem Ended.own {w w' : World} {l : List Nat} {k : Int} {e : Ending} (h : Ended w l k e w') : ∃ A n c, e = .returned (.tuple #[.slice A n c, .int .i64 k]) ∧ Own w' w.heap.size A n c l ∧ Below w.heap.size w w' := h
set_option maxRecDepth 8000 in
set_option maxHeartbeats 4000000 in
theorem pages_any (L : LogS) (t : Nat) (v : Value) (M : Option Addr) (k kc : Nat) (mk : List (Nat × Int)) (w : World) (hv : LogV w v L t) (hok : L.ok) (hnm : L.name.size ≤ 1000000) (hll : L.live.length ≤ 10000000) (hm : RowR w M k 2 (mk.map markV)) (hk : k ≤ 10000000) (hE : Env w) :
    Calls Tryz.prog 103 #[v, .slice M k kc] w (PgsE w L t mk) := by
  obtain ⟨A, n, c, vs, rfl, hr, hx⟩ := hv
  have hnl : L.live.length = n := by rw [← hx.length]; exact hr.len
  have hbs : Below w.heap.size w (w.alloc (.cells (logCells L (.slice A n c) (t : Int) (cleanS L)).toArray 87)) := (Below.refl _ _).alloc (Nat.le_refl _) _
  obtain ⟨ws, hws⟩ : ∃ ws, ws = w.alloc (.cells (logCells L (.slice A n c) (t : Int) (cleanS L)).toArray 87) := ⟨_, rfl⟩
  rw [← hws] at hbs
  have hg : ws.heap[w.heap.size]? = some (.cells (logCells L (.slice A n c) (t : Int) (cleanS L)).toArray 87 (0, 0)) := by rw [hws]; exact heap_alloc_new w _
  have hOf := of_any L A n c vs t (cleanS L) ws (hr.below hbs) (hx.mono (LiveR.below hbs)) (by omega) rfl
  have hXw := ofI_wf t hok
  have hXn := ofI_name t hnm
  have hYw := flagsOf_wf mk hok
  have hlenY : (ofF L).L.length ≤ 10000000 := by
    unfold ofF
    split
    · show (L.live.map _).length ≤ _
      rw [List.length_map]; exact hll
    · exact Nat.zero_le _
  unfold logCells at hws hg hOf ⊢
  have HOF := Lib.hid hOf
  have HXW := Lib.hid hXw
  have HXN := Lib.hid hXn
  have HYW := Lib.hid hYw
  have HLY := Lib.hid hlenY
  have HMK := Lib.hid (hm.below hbs)
  have HMB : Hid (0 < k → ∀ q, blk M = some q → q < ws.heap.size) := fun h0 q hq => Nat.lt_of_lt_of_le (hm.lt (by omega) h0 q hq) hbs.size
  have HE := Lib.hid (hE.below hbs)
  have HBS := Lib.hid hbs
  have HWS := Lib.hid hws
  have d0 := cell_of_row ws _ 0 _ _ _ hg
  have d1 := cell_of_row ws _ 1 _ _ _ hg
  have d2 := cell_of_row ws _ 2 _ _ _ hg
  have d3 := cell_of_row ws _ 3 _ _ _ hg
  have d4 := cell_of_row ws _ 4 _ _ _ hg
  have d5 := cell_of_row ws _ 5 _ _ _ hg
  clear hr hx hnl hbs hg hOf hXw hXn hYw hlenY hm hE hws hok hnm hll
  obtain ⟨X, hX⟩ : ∃ X, ofI L t = X := ⟨_, rfl⟩
  obtain ⟨Y, hY⟩ : ∃ Y, ofF L = Y := ⟨_, rfl⟩
  have hfo : flagsOf L mk = ⟨Y.epoch, Y.L.map (flagOf mk)⟩ := by unfold flagsOf; rw [hY]
  have hpo : pagesOk L t mk = (rightFlg (flagsOf L mk) && rightIdx X) := by unfold pagesOk; rw [hX]
  rw [hX] at HXW HXN
  rw [hY] at HLY
  have HX := Lib.hid hX
  have HY := Lib.hid hY
  have HFO := Lib.hid hfo
  have HPO := Lib.hid hpo
  clear hX hY hfo hpo
  go_enter Tryz.func103, Tryz.ntmps103
  go_upto_region 1 with fail
  rw [show World.alloc _ _ = ws from HWS.out.symm]
  go_wp2_with fail
  refine HOF.out.mono ?_
  rintro e w2 hE2
  unfold OfE at hE2
  rw [HX.out, HY.out] at hE2
  obtain ⟨A1, c1, A2, c2, m, rfl, hr1, hr2, hb2⟩ := hE2
  have hlm : Y.L.length = m := by have := hr2.len; rwa [List.length_map] at this
  obtain ⟨w3, hw3⟩ : ∃ w3, w3 = (w2.alloc (.cells (idxCells X (.slice A1 m c1)).toArray 149)).alloc (.cells #[.int .u32 (Y.epoch : Int), .slice A2 m c2] 151) := ⟨_, rfl⟩
  have hb3 : Below w2.heap.size w2 w3 := by rw [hw3]; exact ((Below.refl _ _).alloc (Nat.le_refl _) _).alloc (by simp) _
  have hM3 : PgM w3 ws.heap.size w2.heap.size (w2.heap.size + 1) X A1 c1 Y.epoch A2 c2 m Y.L := by
    refine ⟨?_, ?_, hr1.below hb3, hr2.below hb3⟩
    · rw [hw3, Below.heap_alloc _ _ _ (by simp)]; exact heap_alloc_new w2 _
    · rw [hw3]
      have := heap_alloc_new (w2.alloc (.cells (idxCells X (.slice A1 m c1)).toArray 149)) (.cells #[.int .u32 (Y.epoch : Int), .slice A2 m c2] 151)
      rwa [World.size_alloc] at this
  have hbw3 := hb2.trans (hb3.mono hb2.size)
  have hm7 : m ≤ 10000000 := by have := HLY.out; omega
  have HM3 := Lib.hid hM3
  have HBW3 := Lib.hid hbw3
  have HLM : Hid (Y.L.length = m) := hlm
  have HW3 := Lib.hid hw3
  have HB2 := Lib.hid hb2
  have k1 : w3.cell? ⟨w2.heap.size + 1, 1, none⟩ = some (.slice A2 m c2) := cell_of_row w3 _ 1 _ _ _ hM3.b8
  clear hr1 hr2 hb2 hlm hb3 hM3 hbw3 d0 d1 d2 d3 d4 d5 HOF
  unfold idxCells flgCells
  unfold idxCells at hw3 HW3
  clear hw3
  go_upto_region 2 with fail
  rw [← HW3.out]
  go_wp2_with fail
  clear k1
  go_loopw [23] (fun v23 wr => ∃ i : Nat, i ≤ m ∧ v23 = .int .i64 (i : Int) ∧ PgM wr ws.heap.size w2.heap.size (w2.heap.size + 1) X A1 c1 Y.epoch A2 c2 m ((Y.L.take i).map (flagOf mk) ++ Y.L.drop i) ∧ Below ws.heap.size ws wr) (fun v23 _ => m - (intOf v23).toNat)
  case atStart => exact ⟨0, Nat.zero_le _, rfl, by have := HM3.out; simpa using this, HBW3.out⟩
  case round =>
    obtain ⟨i, hi, rfl, hm, hb⟩ := hrel
    have HM := Lib.hid hm
    have HB := Lib.hid hb
    clear hm hb
    by_cases hlt : i < m
    · obtain ⟨x, hx⟩ : ∃ x, Y.L[i]? = some x := ⟨_, List.getElem?_eq_getElem (by rw [HLM.out]; exact hlt)⟩
      obtain ⟨s1, s2, s3⟩ := mix_set (flagOf mk) Y.L i x hx
      obtain ⟨gA, x', rfl, hx', hc⟩ := HM.out.r2.read.map hlt
      rw [s2] at hx'
      injection hx' with hx'
      subst hx'
      obtain ⟨u, f⟩ := x
      obtain ⟨d160, hu, hd⟩ := rowT row160
      have HU := Lib.hid hu
      have HD := Lib.hid hd
      have q1 : wr.cell? ⟨gA, i * 2 + 1, none⟩ = some (.int .i64 f) := hc 1 _ rfl
      unfold markV at hc
      have HC := Lib.hid hc
      have HS1 := Lib.hid s1
      have HS2 := Lib.hid s2
      have HS3 := Lib.hid s3
      obtain ⟨wa, hwa⟩ : ∃ wa, wa = wr.alloc (.cells #[.int .u32 (u : Int), .int .i64 f] 160) := ⟨_, rfl⟩
      have hba : Below wr.heap.size wr wa := by rw [hwa]; exact (Below.refl _ _).alloc (Nat.le_refl _) _
      have a0 : wa.cell? ⟨wr.heap.size, 0, none⟩ = some (.int .u32 (u : Int)) := by rw [hwa]; exact cell_new wr _ 160 rfl
      have hbwA := HB.out.trans (hba.mono HB.out.size)
      have HI := Lib.hid (idxMark_any u wr.heap.size M k kc mk wa (HMK.out.below hbwA) hk a0)
      have HMA := Lib.hid (HM.out.below hba)
      have HBWA := Lib.hid hbwA
      have HQ1 := Lib.hid (cell_later hba q1)
      have HWA := Lib.hid hwa
      clear hx s1 s2 s3 hc hu hd hba hbwA hwa q1 a0
      go_upto_region 5 with (refine wpList_load_mid rfl 160 (.tmp 26) rfl gA (i * 2) rfl _ d160 HC.out HU.out HD.out size160 ?_)
      rw [← HWA.out]
      go_wp2_with fail
      refine HI.out.mono ?_
      rintro e w5 ⟨⟨j, y, hj, rfl, hy, hfind⟩ | ⟨rfl, hnone⟩, hb5⟩
      · have hfo : flagOf mk (u, f) = (u, y.2) := by unfold flagOf; rw [hfind]
        obtain ⟨gM, y', hMe, hy', hcM⟩ := (HMK.out.below (HBWA.out.trans (hb5.mono HBWA.out.size))).map hj
        rw [hy] at hy'
        injection hy' with hy'
        subst hy'
        subst hMe
        have m1 : w5.cell? ⟨gM, j * 2 + 1, none⟩ = some (.int .i64 y.2) := hcM 1 _ rfl
        have hM5 := HMA.out.below hb5
        have k1 : w5.cell? ⟨w2.heap.size + 1, 1, none⟩ = some (.slice (some ⟨gA, 0, none⟩) m c2) := cell_of_row w5 _ 1 _ _ _ hM5.b8
        have q1 : w5.cell? ⟨gA, i * 2 + 1, none⟩ = some (.int .i64 f) := cell_later hb5 HQ1.out
        have qf : ∀ j, w5.frozen? ⟨gA, j, none⟩ = false := hM5.r2.frozen
        have HM5 := Lib.hid hM5
        have HB5 := Lib.hid (HBWA.out.trans (hb5.mono HBWA.out.size))
        have HF := Lib.hid hfo
        have hj0 : (0 : Int) ≤ (j : Int) := by omega
        clear hy hfind hb5 hcM hfo hM5
        go_wp2_with fail
        go_region
        (try go_wp2_with fail)
        obtain ⟨p1, p2⟩ := pg_set (z := y.2) HM5.out HS2.out
        have hgl := HM5.out.r2.lt gA rfl
        refine ⟨⟨i + 1, hlt, by first | rfl | (congr 1), ?_, ?_⟩, by simp [intOf]; omega⟩
        · have h1 := HS1.out
          rw [HF.out] at h1
          rw [← h1]
          exact p1.drew
        · exact (HB5.out.trans (p2.below HB5.out.size (fun b hb e => by omega))).drew
      · have hfo : flagOf mk (u, f) = (u, f) := by unfold flagOf; rw [hnone]
        have HM5 := Lib.hid (HMA.out.below hb5)
        have HB5 := Lib.hid (HBWA.out.trans (hb5.mono HBWA.out.size))
        have HF := Lib.hid hfo
        clear hnone hb5 hfo
        go_wp2_with fail
        refine ⟨⟨i + 1, hlt, by first | rfl | (congr 1), ?_, HB5.out⟩, by simp [intOf]; omega⟩
        rw [← HS3.out HF.out]
        exact HM5.out
    · obtain rfl : i = m := by omega
      have hm := HM.out
      rw [List.take_of_length_le (by rw [HLM.out]; exact Nat.le_refl _), List.drop_eq_nil_of_le (by rw [HLM.out]; exact Nat.le_refl _), List.append_nil] at hm
      have hP := putFlg_any (flagsOf L mk) A2 i c2 wr (by rw [HFO.out]; exact hm.r2.read) (by have := HLM.out; have := HLY.out; omega) HYW.out
      have hfe : (flagsOf L mk).epoch = Y.epoch := by rw [HFO.out]
      unfold flgCells at hP
      rw [hfe] at hP
      have HP := Lib.hid hP
      have HM' := Lib.hid hm
      have k0 : wr.cell? ⟨w2.heap.size + 1, 0, none⟩ = some (.int .u32 (Y.epoch : Int)) := cell_of_row wr _ 0 _ _ _ hm.b8
      have k1 : wr.cell? ⟨w2.heap.size + 1, 1, none⟩ = some (.slice A2 i c2) := cell_of_row wr _ 1 _ _ _ hm.b8
      clear hm hP hfe HM
      go_wp2_with fail
      refine HP.out.mono ?_
      rintro e w5 hE5
      unfold PutF at hE5
      cases hrf : rightFlg (flagsOf L mk)
      · rw [hrf, if_neg (by decide)] at hE5
        obtain ⟨A5, n5, c5, rfl, hown, hb5⟩ := hE5
        have hpo := HPO.out
        rw [hrf, Bool.false_and] at hpo
        have HPF := Lib.hid hpo
        have HB5 := Lib.hid (HBS.out.trans ((HB.out.trans (hb5.mono HB.out.size)).mono HBS.out.size))
        clear hown hb5 hpo hrf
        go_wp2_with fail
        go_ret3
        unfold PgsE
        rw [HPF.out, if_neg (by decide)]
        exact ⟨_, _, 1, by decide, rfl, HB5.out⟩
      · rw [hrf, if_pos rfl] at hE5
        obtain ⟨A5, n5, c5, rfl, hown, hb5⟩ := hE5
        have hpo := HPO.out
        rw [hrf, Bool.true_and] at hpo
        have hM5 := HM'.out.below hb5
        have hPI := putIdx_any X A1 i c1 w5 hM5.r1.read (by have := HLM.out; have := HLY.out; omega) HXN.out HXW.out ((HE.out.below HB.out).below hb5)
        unfold idxCells at hPI
        have j0 : w5.cell? ⟨w2.heap.size, 0, none⟩ = some (.string X.name) := cell_of_row w5 _ 0 _ _ _ hM5.b7
        have j1 : w5.cell? ⟨w2.heap.size, 1, none⟩ = some (.int .u32 (X.epoch : Int)) := cell_of_row w5 _ 1 _ _ _ hM5.b7
        have j2 : w5.cell? ⟨w2.heap.size, 2, none⟩ = some (.int .u32 (X.next : Int)) := cell_of_row w5 _ 2 _ _ _ hM5.b7
        have j3 : w5.cell? ⟨w2.heap.size, 3, none⟩ = some (.int .i64 (X.upto : Int)) := cell_of_row w5 _ 3 _ _ _ hM5.b7
        have j4 : w5.cell? ⟨w2.heap.size, 4, none⟩ = some (.slice A1 i c1) := cell_of_row w5 _ 4 _ _ _ hM5.b7
        have HPF := Lib.hid hpo
        have HPI := Lib.hid hPI
        have HOW := Lib.hid hown
        have HB5 := Lib.hid hb5
        clear hown hb5 hM5 hPI hpo hrf k0 k1
        go_wp2_with fail
        refine HPI.out.mono ?_
        rintro e w6 hE6
        unfold PutI at hE6
        cases hri : rightIdx X
        · rw [hri, if_neg (by decide)] at hE6
          obtain ⟨A6, n6, c6, rfl, hown6, hb6⟩ := hE6
          have hpo := HPF.out
          rw [hri] at hpo
          have HPF' := Lib.hid hpo
          have HB6 := Lib.hid (HBS.out.trans (((HB.out.trans (HB5.out.mono HB.out.size)).trans (hb6.mono (by have := HB.out.size; have := HB5.out.size; omega))).mono HBS.out.size))
          clear hown6 hb6 hpo hri j0 j1 j2 j3 j4
          go_wp2_with fail
          go_ret3
          unfold PgsE
          rw [HPF'.out, if_neg (by decide)]
          exact ⟨_, _, 1, by decide, rfl, HB6.out⟩
        · rw [hri, if_pos rfl] at hE6
          obtain ⟨A6, n6, c6, rfl, hown6, hb6⟩ := hE6
          have hpo := HPF.out
          rw [hri] at hpo
          have HPF' := Lib.hid hpo
          have hz1 : w.heap.size ≤ wr.heap.size := Nat.le_trans HBS.out.size HB.out.size
          have HB6 := Lib.hid (HBS.out.trans (((HB.out.trans (HB5.out.mono HB.out.size)).trans (hb6.mono (by have := HB.out.size; have := HB5.out.size; omega))).mono HBS.out.size))
          have HO1 := Lib.hid ((HOW.out.only (Only.of_below hb6 (fun _ => False)) (fun _ _ h => h)).more (B := w.heap.size) (fun q hq => Nat.le_trans hz1 (HOW.out.lt q hq).1))
          have HO2 := Lib.hid (hown6.more (B := w.heap.size) (fun q hq => by have := (hown6.lt q hq).1; have := HB5.out.size; omega))
          clear hown6 hb6 hpo hri j0 j1 j2 j3 j4
          go_wp2_with fail
          go_ret3
          unfold PgsE
          rw [HPF'.out, if_pos rfl, HX.out]
          exact ⟨A5, n5, c5, A6, n6, c6, rfl, HO1.out, HO2.out, HB6.out⟩
end Go.Proofs.YtlhaempecidohaaGreatDoor
namespace Go.Proofs.YtlhaempecidohaaGreatDoor
open Go.RowKit
theorem uid_clo (e : Nat × Nat) (m : Nat × Int) (h : e.1 = m.1) (w : World) :
    Calls Tryz.prog 145 #[.agg (entV e).toArray, .agg (markV m).toArray] w fun e w' => e = .returned (.bool true) ∧ Below w.heap.size w w' := by
  have hb0 : Below w.heap.size w ((w.alloc (.cells (entV e).toArray 226)).alloc (.cells (markV m).toArray 160)) := ((Below.refl _ _).alloc (Nat.le_refl _) _).alloc (by simp) _
  unfold entV markV at hb0 ⊢
  rw [h] at hb0 ⊢
  have HB := Lib.hid hb0
  clear hb0
  go_enter Tryz.func145, Tryz.ntmps145
  go_wp2
  go_ret
  exact ⟨rfl, HB.out⟩
set_option maxRecDepth 8000 in
set_option maxHeartbeats 2000000 in
theorem equalUids_any (A B : Option Addr) (n c d : Nat) (es : List (Nat × Nat)) (ms : List (Nat × Int)) (w : World) (h1 : RowR w A n 2 (es.map entV)) (h2 : RowR w B n 2 (ms.map markV)) (hn : n ≤ 10000000) (hu : es.map (·.1) = ms.map (·.1)) :
    Calls Tryz.prog 144 #[.slice A n c, .slice B n d, .func (Fn.func 145) #[] #[]] w fun e w' => e = .returned (.bool true) ∧ Below w.heap.size w w' := by
  have H1 := Lib.hid h1
  have H2 := Lib.hid h2
  have HU := Lib.hid hu
  clear h1 h2 hu
  go_enter Tryz.func144, Tryz.ntmps144
  go_wp2_with fail
  go_loopw [17] (fun v17 wr => ∃ i : Nat, i ≤ n ∧ v17 = .int .i64 (i : Int) ∧ Below w.heap.size w wr) (fun v17 _ => n - (intOf v17).toNat)
  case atStart => exact ⟨0, Nat.zero_le _, rfl, Below.refl _ _⟩
  case round =>
    obtain ⟨i, hi, rfl, hb⟩ := hrel
    have HB := Lib.hid hb
    clear hb
    by_cases hlt : i < n
    · obtain ⟨g1, x, rfl, hx, hc1⟩ := (H1.out.below HB.out).map hlt
      obtain ⟨d226, hu1, hd1⟩ := rowT row226
      obtain ⟨d160, hu2, hd2⟩ := rowT row160
      obtain ⟨wa, hwa⟩ : ∃ wa, wa = wr.alloc (.cells #[.int .u32 (x.1 : Int), .int .i64 (x.2 : Int)] 226) := ⟨_, rfl⟩
      have hba : Below wr.heap.size wr wa := by rw [hwa]; exact (Below.refl _ _).alloc (Nat.le_refl _) _
      obtain ⟨g2, y, rfl, hy, hc2⟩ := ((H2.out.below HB.out).below hba).map hlt
      obtain ⟨wb, hwb⟩ : ∃ wb, wb = wa.alloc (.cells #[.int .u32 (y.1 : Int), .int .i64 y.2] 160) := ⟨_, rfl⟩
      have hbb : Below wa.heap.size wa wb := by rw [hwb]; exact (Below.refl _ _).alloc (Nat.le_refl _) _
      have hxy : x.1 = y.1 := by
        have h1 : (es.map (·.1))[i]? = some x.1 := by rw [List.getElem?_map, hx]; rfl
        rw [HU.out, List.getElem?_map, hy] at h1
        injection h1 with h1
        exact h1.symm
      have hcl := uid_clo x y hxy wb
      have a0 : wb.cell? ⟨wr.heap.size, 0, none⟩ = some (.int .u32 (x.1 : Int)) := cell_later hbb (by rw [hwa]; exact cell_new wr _ 226 rfl)
      have a1 : wb.cell? ⟨wr.heap.size, 1, none⟩ = some (.int .i64 (x.2 : Int)) := cell_later hbb (by rw [hwa]; exact cell_new wr _ 226 rfl)
      have b0 : wb.cell? ⟨wa.heap.size, 0, none⟩ = some (.int .u32 (y.1 : Int)) := by rw [hwb]; exact cell_new wa _ 160 rfl
      have b1 : wb.cell? ⟨wa.heap.size, 1, none⟩ = some (.int .i64 y.2) := by rw [hwb]; exact cell_new wa _ 160 rfl
      unfold entV markV at hcl
      unfold entV at hc1
      unfold markV at hc2
      have HC1 := Lib.hid hc1
      have HC2 := Lib.hid hc2
      have HU1 := Lib.hid hu1
      have HD1 := Lib.hid hd1
      have HU2 := Lib.hid hu2
      have HD2 := Lib.hid hd2
      have HCL := Lib.hid hcl
      have HWA := Lib.hid hwa
      have HWB := Lib.hid hwb
      have HBW := Lib.hid (HB.out.trans ((hba.trans (hbb.mono hba.size)).mono HB.out.size))
      clear hx hy hc1 hc2 hu1 hd1 hu2 hd2 hcl hwa hwb hba hbb hxy
      go_upto_region 6 with (refine wpList_load_mid rfl 226 (.tmp 20) rfl g1 (i * 2) rfl _ d226 HC1.out HU1.out HD1.out size226 ?_)
      rw [← HWA.out]
      go_upto_region 7 with (refine wpList_load_mid rfl 160 (.tmp 24) rfl g2 (i * 2) rfl _ d160 HC2.out HU2.out HD2.out size160 ?_)
      rw [← HWB.out]
      go_wp2_with fail
      refine HCL.out.mono ?_
      rintro e w5 ⟨rfl, hb5⟩
      have HB5 := Lib.hid (HBW.out.trans (hb5.mono HBW.out.size))
      clear hb5 a0 a1 b0 b1
      go_wp2_with fail
      exact ⟨⟨i + 1, hlt, by first | rfl | (congr 1), HB5.out⟩, by simp [intOf]; omega⟩
    · go_wp2_with fail
      go_ret
      exact ⟨rfl, HB.out⟩
set_option maxRecDepth 8000 in
set_option maxHeartbeats 1000000 in
theorem uids_any (x : IdxS) (f : FlgS) (A B : Option Addr) (n c d : Nat) (w : World) (h1 : RowR w A n 2 (x.L.map entV)) (h2 : RowR w B n 2 (f.L.map markV)) (hn : n ≤ 10000000) (he : x.epoch = f.epoch) (hu : x.L.map (·.1) = f.L.map (·.1)) :
    Calls Tryz.prog 87 #[.agg (idxCells x (.slice A n c)).toArray, .agg (flgCells f (.slice B n d)).toArray] w fun e w' => e = .returned (.bool true) ∧ Below w.heap.size w w' := by
  unfold idxCells flgCells
  obtain ⟨ws, hws⟩ : ∃ ws, ws = (w.alloc (.cells #[.string x.name, .int .u32 (x.epoch : Int), .int .u32 (x.next : Int), .int .i64 (x.upto : Int), .slice A n c] 149)).alloc (.cells #[.int .u32 (f.epoch : Int), .slice B n d] 151) := ⟨_, rfl⟩
  have hbs : Below w.heap.size w ws := by rw [hws]; exact ((Below.refl _ _).alloc (Nat.le_refl _) _).alloc (by simp) _
  have hg0 : ws.heap[w.heap.size]? = some (.cells #[.string x.name, .int .u32 (x.epoch : Int), .int .u32 (x.next : Int), .int .i64 (x.upto : Int), .slice A n c] 149 (0, 0)) := by
    rw [hws, Below.heap_alloc _ _ _ (by simp)]
    exact heap_alloc_new w _
  have hg1 : ws.heap[w.heap.size + 1]? = some (.cells #[.int .u32 (f.epoch : Int), .slice B n d] 151 (0, 0)) := by
    rw [hws]
    have := heap_alloc_new (w.alloc (.cells #[.string x.name, .int .u32 (x.epoch : Int), .int .u32 (x.next : Int), .int .i64 (x.upto : Int), .slice A n c] 149)) (.cells #[.int .u32 (f.epoch : Int), .slice B n d] 151)
    rwa [World.size_alloc] at this
  have c1 := cell_of_row ws _ 1 _ _ _ hg0
  have c4 := cell_of_row ws _ 4 _ _ _ hg0
  have d0 := cell_of_row ws _ 0 _ _ _ hg1
  have d1 := cell_of_row ws _ 1 _ _ _ hg1
  have HQ := Lib.hid (equalUids_any A B n c d x.L f.L ws (h1.below hbs) (h2.below hbs) hn hu)
  have HBS := Lib.hid hbs
  have HWS := Lib.hid hws
  have e1 : ((x.epoch : Int) == (f.epoch : Int)) = true := by rw [he]; simp
  clear h1 h2 hbs hg0 hg1 hws hu he
  go_enter Tryz.func87, Tryz.ntmps87
  go_upto_region 1 with fail
  rw [← HWS.out]
  go_wp2_with fail
  refine HQ.out.mono ?_
  rintro e w1 ⟨rfl, hb⟩
  have HB := Lib.hid (HBS.out.trans (hb.mono HBS.out.size))
  clear hb
  go_wp2_with fail
  go_ret
  exact ⟨rfl, HB.out⟩
end Go.Proofs.YtlhaempecidohaaGreatDoor
namespace Go.Proofs.YtlhaempecidohaaGreatDoor
open Go.RowKit Go.Sort
def placeV (p : PlaceS) : List Value := [.int .i64 (p.1 : Int), .string p.2]
theorem row113 : (Tryz.prog.underlying 113).map TypeDesc.isRow = some true := by kernel_rfl
theorem size113 : (Tryz.prog.info? 113).map (·.size) = some 2 := by kernel_rfl
theorem inf113 : (Tryz.prog.info? 113).map (fun i => (i.zero, i.size, i.bytes)) = some (some (.agg #[.int .i64 0, .string ⟨#[]⟩]), 2, 24) := by kernel_rfl
theorem und108 : Tryz.prog.underlying 108 = some (.slice 113) := by kernel_rfl
/-- a tree that is right -/
structure TreeOK (l : List PlaceS) : Prop where
  few : ∀ p ∈ l, p.1 < 16
  nm : ∀ p ∈ l, named p.2 = true
  up : l.Pairwise (fun a b => a.1 < b.1)
  apart : (l.map (·.2)).Nodup
  inb : inboxes l = 1
theorem sameName_any (x : PlaceS) (s : ByteArray) (gp : Nat) (w : World) (c1 : w.cell? ⟨gp, 1, none⟩ = some (.string s)) :
    Calls Tryz.prog 226 #[.agg (placeV x).toArray, .pointer (some ⟨gp, 0, none⟩)] w fun e w' => e = .returned (.bool (decide (x.2 = s))) ∧ Below w.heap.size w w' := by
  have hb0 : Below w.heap.size w (w.alloc (.cells (placeV x).toArray 113)) := (Below.refl _ _).alloc (Nat.le_refl _) _
  have c1 := cell_later hb0 c1
  have e1 := str_eqb x.2 s
  unfold placeV at c1 hb0 ⊢
  have HB := Lib.hid hb0
  clear hb0
  obtain ⟨b, hb⟩ : ∃ b, b = decide (x.2 = s) := ⟨_, rfl⟩
  rw [← hb] at e1 ⊢
  clear hb
  go_enter Tryz.func226, Tryz.ntmps226
  go_wp2
  go_ret
  exact ⟨rfl, HB.out⟩
set_option maxRecDepth 8000 in
set_option maxHeartbeats 1000000 in
theorem idxName_any (s : ByteArray) (gp : Nat) (A : Option Addr) (n c : Nat) (xs : List PlaceS) (w : World) (hr : RowR w A n 2 (xs.map placeV)) (hn : n ≤ 10000000) (c1 : w.cell? ⟨gp, 1, none⟩ = some (.string s)) (hno : ∀ x ∈ xs, ¬ x.2 = s) :
    Calls Tryz.prog 290 #[.slice A n c, .func (Fn.func 226) #[] #[.pointer (some ⟨gp, 0, none⟩)]] w fun e w' => e = .returned (.int .i64 (-1)) ∧ Below w.heap.size w w' := by
  have HR := Lib.hid hr
  have H1 := Lib.hid c1
  have HNO := Lib.hid hno
  clear hr c1 hno
  go_enter Tryz.func290, Tryz.ntmps290
  go_wp2_with fail
  go_loopw [8] (fun v8 wr => ∃ i : Nat, i ≤ n ∧ v8 = .int .i64 (i : Int) ∧ Below w.heap.size w wr) (fun v8 _ => n - (intOf v8).toNat)
  case atStart => exact ⟨0, Nat.zero_le _, rfl, Below.refl _ _⟩
  case round =>
    obtain ⟨i, hi, rfl, hb⟩ := hrel
    have HB := Lib.hid hb
    clear hb
    by_cases hlt : i < n
    · obtain ⟨g, x, rfl, hx, hc⟩ := (HR.out.below HB.out).map hlt
      have hcl := sameName_any x s gp wr (cell_later HB.out H1.out)
      rw [decide_eq_false (HNO.out x (List.mem_of_getElem? hx))] at hcl
      obtain ⟨d113, hu, hd⟩ := rowT row113
      have HU := Lib.hid hu
      have HD := Lib.hid hd
      unfold placeV at hc hcl
      have HC := Lib.hid hc
      have HCL := Lib.hid hcl
      clear hc hcl hx hu hd
      go_wp2_with (first
          | (refine wpList_load_mid rfl 113 (.tmp 14) rfl g (i * 2) rfl _ d113 HC.out HU.out HD.out size113 ?_)
          | (go_at_call 226; refine HCL.out.mono ?_; rintro e w1 ⟨rfl, hb1⟩; have HB1 := Lib.hid (HB.out.trans (hb1.mono HB.out.size)); clear hb1))
      exact ⟨⟨i + 1, hlt, by first | rfl | (congr 1), HB1.out⟩, by simp [intOf]; omega⟩
    · go_wp2_with fail
      go_ret
      exact ⟨rfl, HB.out⟩
theorem anyName_any (s : ByteArray) (gp : Nat) (A : Option Addr) (n c : Nat) (xs : List PlaceS) (w : World) (hr : RowR w A n 2 (xs.map placeV)) (hn : n ≤ 10000000) (c1 : w.cell? ⟨gp, 1, none⟩ = some (.string s)) (hno : ∀ x ∈ xs, ¬ x.2 = s) :
    Calls Tryz.prog 225 #[.slice A n c, .func (Fn.func 226) #[] #[.pointer (some ⟨gp, 0, none⟩)]] w fun e w' => e = .returned (.bool false) ∧ Below w.heap.size w w' := by
  have HI := Lib.hid (idxName_any s gp A n c xs w hr hn c1 hno)
  clear hr c1 hno
  go_enter Tryz.func225, Tryz.ntmps225
  go_wp2_with fail
  refine HI.out.mono ?_
  rintro e w1 ⟨rfl, hb⟩
  have HB := Lib.hid hb
  clear hb
  go_wp2_with fail
  go_ret
  exact ⟨rfl, HB.out⟩
theorem inboxes_succ (l : List PlaceS) (i : Nat) (p : PlaceS) (h : l[i]? = some p) : inboxes (l.take (i + 1)) = inboxes (l.take i) + (if decide (p.2 = inboxS) then 1 else 0) := by
  unfold inboxes
  rw [filter_take_succ _ _ _ _ h, List.length_append]
  cases decide (p.2 = inboxS) <;> rfl
set_option maxRecDepth 8000 in
set_option maxHeartbeats 3000000 in
theorem rightTree_any (l : List PlaceS) (A : Option Addr) (n c : Nat) (w : World) (hr : RowR w A n 2 (l.map placeV)) (hn : n ≤ 10000000) (hnc : n ≤ c) (hl : TreeOK l) (hE : Env w) :
    Calls Tryz.prog 181 #[.slice A n c] w fun e w' => e = .returned (.bool true) ∧ Below w.heap.size w w' := by
  have hlen : l.length = n := by have := hr.len; rwa [List.length_map] at this
  have HLEN : Hid (l.length = n) := hlen
  have HR := Lib.hid hr
  have HL := Lib.hid hl
  have HES := Lib.hid hE
  clear hr hl hE hlen
  go_enter Tryz.func181, Tryz.ntmps181
  go_wp2_with fail
  go_loopw [3, 8] (fun v3 v8 wr => ∃ i : Nat, i ≤ n ∧ v3 = .int .i64 ((inboxes (l.take i) : Nat) : Int) ∧ v8 = .int .i64 (i : Int) ∧ Below w.heap.size w wr) (fun _ v8 _ => n - (intOf v8).toNat)
  case atStart => exact ⟨0, Nat.zero_le _, rfl, rfl, Below.refl _ _⟩
  case round =>
    obtain ⟨i, hi, rfl, rfl, hb⟩ := hrel
    have HB := Lib.hid hb
    clear hb
    by_cases hlt : i < n
    · obtain ⟨gA, p, rfl, hxe, hc⟩ := (HR.out.below HB.out).map hlt
      obtain ⟨d113, hu, hd⟩ := rowT row113
      have HU := Lib.hid hu
      have HD := Lib.hid hd
      unfold placeV at hc
      have HC := Lib.hid hc
      have hp16 := HL.out.few p (List.mem_of_getElem? hxe)
      have hpn := HL.out.nm p (List.mem_of_getElem? hxe)
      have hps := named_size hpn
      have HPN := Lib.hid hpn
      have HXE := Lib.hid hxe
      have hcount := inboxes_succ l i p hxe
      have hcle : inboxes (l.take i) ≤ i := by
        unfold inboxes
        refine Nat.le_trans (List.length_filter_le _ _) ?_
        rw [List.length_take]; omega
      have HCOUNT := Lib.hid hcount
      clear hu hd hc hxe hpn hcount
      obtain ⟨wa, hwa⟩ : ∃ wa, wa = wr.alloc (.cells #[.int .i64 (p.1 : Int), .string p.2] 113) := ⟨_, rfl⟩
      have hba : Below wr.heap.size wr wa := by rw [hwa]; exact (Below.refl _ _).alloc (Nat.le_refl _) _
      have a0 : wa.cell? ⟨wr.heap.size, 0, none⟩ = some (.int .i64 (p.1 : Int)) := by rw [hwa]; exact cell_new wr _ 113 rfl
      have a1 : wa.cell? ⟨wr.heap.size, 1, none⟩ = some (.string p.2) := by rw [hwa]; exact cell_new wr _ 113 rfl
      have HA1 := Lib.hid a1
      have HBA := Lib.hid hba
      have HWA := Lib.hid hwa
      obtain ⟨k0, hk0⟩ := ((HES.out.below HB.out).below hba).maxlen
      have HIN := fun d os => Calls.regrown_of (inamed p.2 (by omega) k0 (grow (redrawn wa d) os) (cell_regrown hk0 d os))
      rw [HPN.out] at HIN
      have HINN := Lib.hid HIN
      have HRA := Lib.hid ((HR.out.below HB.out).below hba)
      clear hk0 HIN hba hwa
      go_upto_region 5 with (refine wpList_load_mid rfl 113 (.tmp 11) rfl gA (i * 2) rfl _ d113 HC.out HU.out HD.out size113 ?_)
      rw [← HWA.out]
      go_cut [41] from 13 to 41 (fun v41 wx => v41 = .bool false ∧ Below wa.heap.size wa wx)
      case first =>
        have k0 := cell_regrown a0
        have k1 := cell_regrown a1
        clear a0 a1
        have q1 : decide ((p.1 : Int) < 0) = false := decide_eq_false (by omega)
        have q2 : decide ((16 : Int) ≤ (p.1 : Int)) = false := decide_eq_false (by omega)
        rcases i with _ | j
        · refine wp_region_quiet_below (by kernel_rfl) (by kernel_rfl) ?_
          repeat (go_big_quiet_step (exact HINN.out _ _))
          refine wpQuiet_nil ?_
          intro _ hw'
          obtain ⟨⟨dq, osq⟩, hw''⟩ := hw'
          subst hw''
          go_wp2_with fail
          go_meet
          exact ⟨rfl, below_regrown wa dq osq⟩
        · obtain ⟨gA', y, hA', hy, hc'⟩ := HRA.out.map (i := j) (by omega)
          injection hA' with hA'
          injection hA' with hA'
          subst hA'
          have r0 : ∀ d os, (grow (redrawn wa d) os).cell? ⟨gA, j * 2, none⟩ = some (.int .i64 (y.1 : Int)) := cell_regrown (by have := hc' 0 _ rfl; rwa [Nat.add_zero] at this)
          have hup := List.pairwise_iff_getElem.1 HL.out.up j (j + 1) (by rw [HLEN.out]; omega) (by rw [HLEN.out]; omega) (by omega)
          rw [(List.getElem?_eq_some_iff.1 hy).2, (List.getElem?_eq_some_iff.1 HXE.out).2] at hup
          have q3 : decide ((p.1 : Int) ≤ (y.1 : Int)) = false := decide_eq_false (by omega)
          have q4 : decide (p.1 ≤ y.1) = false := decide_eq_false (by omega)
          have ej : ((j + 1 : Nat) : Int) - 1 = (j : Int) := by omega
          have hjn : j < n := by omega
          have hj0 : (0 : Int) < ((j + 1 : Nat) : Int) := by omega
          clear hc' hup hy
          refine wp_region_quiet_below (by kernel_rfl) (by kernel_rfl) ?_
          repeat (go_big_quiet_step (exact HINN.out _ _))
          refine wpQuiet_nil ?_
          intro _ hw'
          obtain ⟨⟨dq, osq⟩, hw''⟩ := hw'
          subst hw''
          go_wp2_with fail
          go_meet
          exact ⟨rfl, below_regrown wa dq osq⟩
      case rest =>
        obtain ⟨rfl, hbx⟩ := hcut
        have a1 := cell_later hbx a1
        have HBX := Lib.hid hbx
        have sl : ∀ w', (Instr.slice 108 (.slice (some ⟨gA, 0, none⟩) n c) none (some (.int .i64 (i : Int))) none).run Tryz.prog w' = .ok (.slice (some ⟨gA, 0, none⟩) i c) w' := slice_row_h und108 inf113 _ n c i (by omega)
        have hno : ∀ x ∈ l.take i, ¬ x.2 = p.2 := by
          intro x hx e
          obtain ⟨j, hj⟩ := List.mem_iff_getElem?.1 hx
          rw [List.getElem?_take] at hj
          split at hj
          · rename_i hji
            have hap := HL.out.apart
            rw [List.Nodup, List.pairwise_iff_getElem] at hap
            refine hap j i (by simp; have := HLEN.out; omega) (by simp; have := HLEN.out; omega) hji ?_
            rw [List.getElem_map, List.getElem_map, (List.getElem?_eq_some_iff.1 hj).2, (List.getElem?_eq_some_iff.1 HXE.out).2, e]
          · cases hj
        have hrt := (HRA.out.below hbx).take (m := i) (by omega)
        rw [← List.map_take] at hrt
        have HAN := Lib.hid (anyName_any p.2 wr.heap.size (some ⟨gA, 0, none⟩) i c (l.take i) wc hrt (by omega) a1 hno)
        clear hbx hno hrt a0
        go_wp2_with fail
        refine HAN.out.mono ?_
        rintro e w3 ⟨rfl, hb3⟩
        have a1 := cell_later hb3 a1
        have HBW : Hid (Below w.heap.size w w3) := (HB.out.trans (HBA.out.mono HB.out.size)).trans ((HBX.out.mono (by have := HB.out.size; have := HBA.out.size; omega)).trans (hb3.mono (by have := HB.out.size; have := HBA.out.size; have := HBX.out.size; omega)))
        clear hb3
        have e5 : (p.2.toList == [73, 78, 66, 79, 88]) = decide (p.2 = inboxS) := by
          have := str_eqb p.2 inboxS
          rwa [show inboxS.toList = [73, 78, 66, 79, 88] by decide +kernel] at this
        obtain ⟨b5, hb5⟩ : ∃ b, b = decide (p.2 = inboxS) := ⟨_, rfl⟩
        rw [← hb5] at HCOUNT e5
        clear hb5
        cases b5
        · go_wp2_with fail
          refine ⟨⟨i + 1, hlt, ?_, by first | rfl | (congr 1), HBW.out⟩, by simp [intOf]; omega⟩
          rw [HCOUNT.out]; rfl
        · go_wp2_with fail
          refine ⟨⟨i + 1, hlt, ?_, by first | rfl | (congr 1), HBW.out⟩, by simp [intOf]; omega⟩
          rw [HCOUNT.out]
          first | rfl | (congr 1)
    · obtain rfl : i = n := by omega
      have h1 : inboxes (l.take i) = 1 := by rw [List.take_of_length_le (by rw [HLEN.out]; exact Nat.le_refl _)]; exact HL.out.inb
      rw [h1]
      go_wp2_with fail
      go_ret
      exact ⟨rfl, HB.out⟩
end Go.Proofs.YtlhaempecidohaaGreatDoor
namespace Go.Proofs.YtlhaempecidohaaGreatDoor
open Go.RowKit
theorem same_any (A B : Option Addr) (n c m d : Nat) (a b : List Nat) (w : World) (h1 : RB w A n a) (h2 : RB w B m b) :
    Calls Tryz.prog 118 #[.slice A n c, .int .i64 0, .slice B m d] w fun e w' => e = .returned (.bool (decide (a = b))) ∧ w' = w := by
  have HQ := Lib.hid (equal_any A B n c m d a b w h1 h2)
  clear h1 h2
  generalize decide (a = b) = x at HQ ⊢
  go_enter Tryz.func118, Tryz.ntmps118
  go_wp2_with fail
  refine HQ.out.mono ?_
  rintro e w1 ⟨rfl, rfl⟩
  go_wp2_with fail
  go_ret
  exact ⟨rfl, rfl⟩
def placeB (p : PlaceS) : List Nat := beb p.1 1 ++ textB p.2
theorem flat_le {α : Type} (l : List α) (f : α → List Nat) (k : Nat) (h : ∀ x ∈ l, (f x).length ≤ k) : (l.flatMap f).length ≤ l.length * k := by
  induction l with
  | nil => simp
  | cons x l ih =>
    have h1 := h x (by simp)
    have h2 := ih (fun y hy => h y (by simp [hy]))
    rw [List.flatMap_cons, List.length_append, List.length_cons, Nat.add_mul]
    omega
theorem TreeOK.len {l : List PlaceS} (h : TreeOK l) : l.length ≤ 16 := by
  have h1 : (l.map (·.1)).Pairwise (· < ·) := by rw [List.pairwise_map]; exact h.up
  have := up_len' (j := 0) (k := 16) h1 (fun x hx => by
    obtain ⟨p, hp, rfl⟩ := List.mem_map.1 hx
    exact ⟨Nat.zero_le _, h.few p hp⟩)
  simpa using this
theorem placeB_len {l : List PlaceS} (h : TreeOK l) : ∀ p ∈ l, (placeB p).length ≤ 63 := fun p hp => by
  have := named_size (h.nm p hp)
  unfold placeB
  simp only [List.length_append, beb_length, textB_length]
  omega
theorem treeP_len {l : List PlaceS} (h : TreeOK l) : (treeP l).length ≤ 1009 := by
  have h1 := flat_le l placeB 63 (placeB_len h)
  have h2 := h.len
  have e : treeP l = beb l.length 1 ++ l.flatMap placeB := rfl
  rw [e, List.length_append, beb_length]
  omega
set_option maxRecDepth 8000 in
set_option maxHeartbeats 3000000 in
theorem putTree_any (l : List PlaceS) (A : Option Addr) (n c : Nat) (w : World) (hr : RowR w A n 2 (l.map placeV)) (hnc : n ≤ c) (hl : TreeOK l) (hE : Env w) :
    Calls Tryz.prog 117 #[.slice A n c] w (Ended w (treeB l) 0) := by
  have hlen : l.length = n := by have := hr.len; rwa [List.length_map] at this
  have hn : n ≤ 16 := by rw [← hlen]; exact hl.len
  have HLEN : Hid (l.length = n) := hlen
  have HT := Lib.hid (rightTree_any l A n c w hr (by omega) hnc hl hE)
  have HR := Lib.hid hr
  have HL := Lib.hid hl
  have l1 : ∀ x, (beb x 1).length = 1 := fun x => beb_length x 1
  have hpl := placeB_len hl
  have HPL := Lib.hid hpl
  clear hr hl hE hlen hpl
  go_enter Tryz.func117, Tryz.ntmps117
  go_wp2_with fail
  refine HT.out.mono ?_
  rintro e w1 ⟨rfl, hb⟩
  have HO := Lib.hid (OutW.made _ w1 hb)
  clear hb
  go_wp2_with fail
  refine (HO.out.n n 1 (by simp only [List.length_nil]; omega) (by omega) (by omega) (by omega)).mono ?_
  rintro e w2 ⟨rfl, hO⟩
  rw [List.nil_append] at hO
  have HO2 := Lib.hid hO
  clear hO HO
  go_wp2_with fail
  go_loopw [15] (fun v15 wr => ∃ i : Nat, i ≤ n ∧ v15 = .int .i64 (i : Int) ∧ OutW w wr w1.heap.size (beb n 1 ++ (l.take i).flatMap placeB)) (fun v15 _ => n - (intOf v15).toNat)
  case atStart => exact ⟨0, Nat.zero_le _, rfl, by have := HO2.out; simpa using this⟩
  case round =>
    obtain ⟨i, hi, rfl, hO⟩ := hrel
    have HO := Lib.hid hO
    clear hO
    by_cases hlt : i < n
    · obtain ⟨gA, p, rfl, hxe, hc⟩ := (HR.out.below HO.out.below).map hlt
      obtain ⟨d113, hu, hd⟩ := rowT row113
      have HU := Lib.hid hu
      have HD := Lib.hid hd
      unfold placeV at hc
      have HC := Lib.hid hc
      obtain ⟨hil, hie⟩ := List.getElem?_eq_some_iff.1 hxe
      have hp16 := HL.out.few p (List.mem_of_getElem? hxe)
      have hps := named_size (HL.out.nm p (List.mem_of_getElem? hxe))
      have hnext : (l.take (i + 1)).flatMap placeB = (l.take i).flatMap placeB ++ placeB p := by
        rw [List.take_succ_eq_append_getElem hil, hie, List.flatMap_append]; simp
      have hml : ((l.take i).flatMap placeB).length ≤ 1008 := by
        have := flat_le (l.take i) placeB 63 (fun q hq => HPL.out q (List.mem_of_mem_take hq))
        rw [List.length_take] at this
        omega
      have HNX := Lib.hid hnext
      obtain ⟨u, f'⟩ := p
      dsimp only at hp16 hps hc HC hnext HNX
      clear hu hd hc hxe hil hie hnext
      obtain ⟨wa, hwa⟩ : ∃ wa, wa = wr.alloc (.cells #[.int .i64 (u : Int), .string f'] 113) := ⟨_, rfl⟩
      have hba : Below wr.heap.size wr wa := by rw [hwa]; exact (Below.refl _ _).alloc (Nat.le_refl _) _
      have a0 : wa.cell? ⟨wr.heap.size, 0, none⟩ = some (.int .i64 (u : Int)) := by rw [hwa]; exact cell_new wr _ 113 rfl
      have a1 : wa.cell? ⟨wr.heap.size, 1, none⟩ = some (.string f') := by rw [hwa]; exact cell_new wr _ 113 rfl
      have HA1 := Lib.hid a1
      have HBA := Lib.hid hba
      have HWA := Lib.hid hwa
      clear hba hwa
      go_wp2_with (refine wpList_load_mid rfl 113 (.tmp 17) rfl gA (i * 2) rfl _ d113 HC.out HU.out HD.out size113 ?_)
      rw [← HWA.out]
      refine (HO.out.nk HBA.out u 1 (by simp only [List.length_append, l1]; omega) (by omega) (by omega) (by omega)).mono ?_
      rintro e w4 ⟨rfl, hO, hk⟩
      have a1 := hk _ _ _ (Nat.le_refl _) HA1.out
      have HO4 := Lib.hid hO
      clear hO hk
      go_wp2_with fail
      refine (HO4.out.text f' (by omega) (by simp only [List.length_append, l1]; omega)).mono ?_
      rintro e w5 ⟨rfl, hO⟩
      have HO5 := Lib.hid hO
      clear hO
      go_wp2_with fail
      refine ⟨⟨i + 1, hlt, by first | rfl | (congr 1), ?_⟩, by simp [intOf]; omega⟩
      rw [HNX.out, ← List.append_assoc]
      have := HO5.out
      rw [List.append_assoc] at this
      exact this
    · obtain rfl : i = n := by omega
      have hO := HO.out
      rw [List.take_of_length_le (by rw [HLEN.out]; exact Nat.le_refl _)] at hO
      have hP := iput_any 3 (by omega) (by omega) w wr w1.heap.size _ hO (by
        have := flat_le l placeB 63 HPL.out
        rw [HLEN.out] at this
        simp only [List.length_append, l1]
        omega)
      have HP := Lib.hid hP
      clear hP hO
      go_wp2_with fail
      refine HP.out.mono ?_
      rintro e w4 ⟨A', n', c', rfl, hown, hb⟩
      have HOW := Lib.hid hown
      have HB4 := Lib.hid hb
      clear hown hb
      go_wp2_with fail
      go_ret2
      have e : treeB l = page 3 (beb i 1 ++ l.flatMap placeB) := by unfold treeB treeP; rw [HLEN.out]; rfl
      show Ended w (treeB l) 0 _ _
      rw [e]
      exact ⟨A', n', c', rfl, HOW.out, HB4.out⟩
end Go.Proofs.YtlhaempecidohaaGreatDoor
