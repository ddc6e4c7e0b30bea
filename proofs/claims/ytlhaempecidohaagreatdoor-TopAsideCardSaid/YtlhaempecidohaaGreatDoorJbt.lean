/-
  Package fsck: stray: pages of no log are put aside. Package fsck: boxes: the mailbox whose index is another one is mended; all others are whole. Package fsck: tree: the page of the tree is laid anew when it is not there, or another one. Package fsck: Check: its four steps, one by one. Package fsck: Check behind a harm of the index of INBOX: what the index was stands aside.
-/
import Derived.Test.YtlhaempecidohaaGreatDoorJbs
import Derived.Test.YtlhaempecidohaaGreatDoorJbq
set_option linter.unusedSimpArgs false
set_option linter.unusedVariables false
namespace Go.Proofs.YtlhaempecidohaaGreatDoor
open Go.RowKit
def kindsS : List ByteArray := [⟨#[105, 100, 120]⟩, ⟨#[102, 108, 103]⟩]
/-- a page's name -/
def pageN (j i : Nat) : ByteArray := if j = 0 then idxN i else flgN i
theorem pageN_in (i : Nat) (hi : i < 16) (j : Nat) (hj : j < 2) : pageN j i ∈ Nm0 ∧ treeN ≠ pageN j i ∧ newN ≠ pageN j i := by
  obtain ⟨_, _, a3, a4, a5, a6⟩ := names_apart i hi
  obtain ⟨_, b2, b3⟩ := names_in i hi
  unfold pageN
  split
  · exact ⟨b2, fun e => a3 e.symm, fun e => a4 e.symm⟩
  · exact ⟨b3, fun e => a5 e.symm, fun e => a6 e.symm⟩
theorem pageN_log : ∀ i < 16, ∀ j < 2, ∀ k < 16, logN k ≠ pageN j i := by decide +kernel
theorem pageN_inj (i : Nat) (hi : i < 16) (j : Nat) (hj : j < 2) (k : Nat) (hk : k < 16) (j' : Nat) (hj' : j' < 2) (e : pageN j' k = pageN j i) : k = i ∧ j' = j := by
  obtain ⟨_, j2, j3, _, _, _⟩ := names_inj k hk i hi
  have m3 := (names_inj k hk i hi).2.2.2.2.2
  have m4 := (names_inj i hi k hk).2.2.2.2.2
  unfold pageN at e
  split at e
  · split at e
    · exact ⟨j2 e, by omega⟩
    · exact absurd e m3
  · split at e
    · exact absurd e.symm m4
    · exact ⟨j3 e, by omega⟩
/-- what is left of a check's disk while pages go aside -/
structure Stry (F0 F Fi : DiskF) (bs : Boxes) (x : Option (List Nat)) (B : BoxSt) (i j : Nat) : Prop where
  good : Good Fi bs x
  mem : (0, B) ∈ bs
  idx0 : AL.get Fi (badN (idxN 0)) = none
  tree : AL.get Fi treeN = AL.get F0 treeN
  badt : AL.get Fi (badN treeN) = none
  tot : Fi.total = F0.total
  pages : ∀ k < 16, ∀ q < 2, (i < k ∨ k = i ∧ j ≤ q) → AL.get Fi (pageN q k) = AL.get F (pageN q k) ∧ AL.get Fi (badN (pageN q k)) = none
theorem Stry.start {F0 F : DiskF} {bs : Boxes} {x : Option (List Nat)} {B : BoxSt} (h : Chk F0 F bs x B) : Stry F0 F F bs x B 0 0 :=
  ⟨h.good, h.mem, h.idx0, h.tree, h.badt, h.tot, fun k hk q hq _ => ⟨rfl, by unfold pageN; split; exact (h.pages k hk).1; exact (h.pages k hk).2⟩⟩
theorem Stry.skip {F0 F Fi : DiskF} {bs : Boxes} {x : Option (List Nat)} {B : BoxSt} {i j : Nat} (h : Stry F0 F Fi bs x B i j) : Stry F0 F Fi bs x B i (j + 1) :=
  ⟨h.good, h.mem, h.idx0, h.tree, h.badt, h.tot, fun k hk q hq hh => h.pages k hk q hq (by omega)⟩
theorem Stry.next {F0 F Fi : DiskF} {bs : Boxes} {x : Option (List Nat)} {B : BoxSt} {i : Nat} (h : Stry F0 F Fi bs x B i 2) : Stry F0 F Fi bs x B (i + 1) 0 :=
  ⟨h.good, h.mem, h.idx0, h.tree, h.badt, h.tot, fun k hk q hq hh => h.pages k hk q hq (by omega)⟩
theorem Stry.moved {F0 F Fi F' : DiskF} {bs : Boxes} {x : Option (List Nat)} {B : BoxSt} {i j : Nat} (h : Stry F0 F Fi bs x B i j) (hi : i < 16) (hj : j < 2) (hn : i ∉ bs.nums) (hm : Moved Fi F' (pageN j i) (badN (pageN j i))) (hF : (AL.keys Fi).Nodup) (hF' : (AL.keys F').Nodup)
    {f : FileS} (hf : AL.get Fi (pageN j i) = some f) : Stry F0 F F' bs x B i (j + 1) := by
  obtain ⟨a1, a2, a3⟩ := pageN_in i hi j hj
  have hne : ∀ k < 16, k ≠ i → idxN k ≠ pageN j i ∧ flgN k ≠ pageN j i := fun k hk hne => ⟨fun e => hne (pageN_inj i hi j hj k hk 0 (by omega) e).1, fun e => hne (pageN_inj i hi j hj k hk 1 (by omega) e).1⟩
  have h0 : (0 : Nat) ≠ i := fun e => hn (by rw [← e]; exact nums_mem h.mem)
  refine ⟨?_, h.mem, ?_, ?_, ?_, ?_, fun k hk q hq hh => ?_⟩
  · refine h.good.of_same (hm.names h.good.names (bad_sub a1)) (fun k hk => hm.stays (names_in k hk).1 (pageN_log i hi j hj k hk)) (fun p hp => ?_) ?_
    · have hpi : p.1 ≠ i := fun e => hn (by rw [← e]; exact nums_mem hp)
      have h16 := h.good.few p hp
      exact ⟨hm.stays (names_in _ h16).2.1 (hne _ h16 hpi).1, hm.stays (names_in _ h16).2.2 (hne _ h16 hpi).2⟩
    · rw [hm.stays new_in a3]; exact h.good.new
  · rw [hm.bad a1 (hne 0 (by omega) h0).1]; exact h.idx0
  · rw [hm.stays tree_in a2]; exact h.tree
  · rw [hm.bad a1 a2]; exact h.badt
  · rw [hm.total hF hF' (fun e => bad_ne a1 e.symm) hf (h.pages i hi j hj (.inr ⟨rfl, Nat.le_refl _⟩)).2]; exact h.tot
  · have hkq : pageN q k ≠ pageN j i := fun e => by have := pageN_inj i hi j hj k hk q hq e; omega
    have hp := h.pages k hk q hq (by omega)
    rw [hm.stays (pageN_in k hk q hq).1 hkq, hm.bad a1 hkq]
    exact hp
theorem kind_at (j : Nat) (hj : j < 2) : ∃ kd, kindsS[j]? = some kd ∧ kd.size ≤ 100 ∧ ∀ i < 16, kd ++ ⟨#[46]⟩ ++ ⟨((itoaB i).map UInt8.ofNat).toArray⟩ = pageN j i := by
  match j, hj with
  | 0, _ => exact ⟨_, rfl, by decide, idxN_lit⟩
  | 1, _ => exact ⟨_, rfl, by decide, flgN_lit⟩
/-- what stray hands back -/
def StrayE (w : World) (g m cap : Nat) (F0 F : DiskF) (bs : Boxes) (x : Option (List Nat)) (B : BoxSt) (e : Ending) (w' : World) : Prop :=
  e = .returned (.int .i64 0) ∧ ∃ F', DiskS w' g m cap F' ∧ Stry F0 F F' bs x B 16 0 ∧ Only (DB g m) w w'
set_option maxRecDepth 10000 in
set_option maxHeartbeats 8000000 in
theorem cstray_any {w : World} {g m cap : Nat} {F0 F : DiskF} {bs : Boxes} {x : Option (List Nat)} {B : BoxSt} (h : DiskS w g m cap F) (hC : Chk F0 F bs x B) (hE : Env w) :
    Calls Tryz.prog 32 #[.agg #[.pointer (some ⟨g, 0, none⟩)]] w (StrayE w g m cap F0 F bs x B) := by
  obtain ⟨ws, hws⟩ : ∃ ws, ws = w.alloc (.cells #[.pointer (some ⟨g, 0, none⟩)] 82) := ⟨_, rfl⟩
  have hbs : Below w.heap.size w ws := by rw [hws]; exact (Below.refl _ _).alloc (Nat.le_refl _) _
  have hg1 : ws.heap[w.heap.size]? = some (.cells #[.pointer (some ⟨g, 0, none⟩)] 82 (0, 0)) := by rw [hws]; exact heap_alloc_new w _
  have hgm := h.lt
  have hD := h.below hbs
  have hlen := hC.good.names.len h.nodup
  have HLO : Hid (∀ w', Below ws.heap.size ws w' → Calls Tryz.prog 62 #[.pointer (some ⟨g, 0, none⟩)] w' (LogsE w' bs.nums)) := fun w' hb => Good.logs_any (hD.below hb) hC.good ((hE.below hbs).below hb)
  have HNA : Hid (∀ w', Below ws.heap.size ws w' → Calls Tryz.prog 54 #[.pointer (some ⟨g, 0, none⟩)] w' (Named w' (AL.keys F))) := fun w' hb => names_any (hD.below hb) hlen
  have hkl : (AL.keys F).length ≤ 1000000 := by unfold AL.keys; rw [List.length_map]; exact hlen
  have HC := Lib.hid hC
  have HD := Lib.hid hD
  have HBS := Lib.hid hbs
  have HWS := Lib.hid hws
  have HG1 := Lib.hid hg1
  have hbl := hC.good.len
  have c0 := cell_of_row ws _ 0 _ _ _ hg1
  have HDR : Hid (Below ws.heap.size ws ws.drew) := (Below.refl _ _).drew
  clear h hC hE hbs hws hg1 hD hlen
  go_enter Tryz.func32, Tryz.ntmps32
  go_upto_region 1 with fail
  rw [← HWS.out]
  go_cut [3, 4] from 9 to 14 (fun v3 v4 wx => ∃ (A : Option Addr) (n c : Nat) (ns : List ByteArray) (A' : Option Addr) (n' c' : Nat), v3 = .slice A n c ∧ v4 = .slice A' n' c' ∧ SRow wx A n ns ∧ ns.Perm (AL.keys F) ∧ RowR wx A' n' 1 (bs.nums.map iV) ∧ Below ws.heap.size ws wx ∧
    (∀ q, blk A = some q → ws.heap.size ≤ q) ∧ (∀ q, blk A' = some q → ws.heap.size ≤ q))
  case first => as_aux_lemma =>
    have HBX := Lib.hid (Below.refl ws.heap.size ws).drew
    go_region_held (fun w' => w'.cell? ⟨w.heap.size, 0, none⟩ = some (.pointer (some ⟨g, 0, none⟩)))
      (exact c0)
      (first
        | (go_at_call 54; refine (HNA.out _ HBX.out).mono ?_; rintro e w1 ⟨A, n, c, ns, rfl, hs1, hp1, -, hbk1, hb1⟩; have hbx1 := HBX.out.trans (hb1.mono HBX.out.size); have HSR := Lib.hid hs1; have HPM := Lib.hid hp1; have HBK : Hid (∀ q, blk A = some q → ws.heap.size ≤ q) := fun q hq => Nat.le_trans HBX.out.size (hbk1 q hq).1; have c0 := cell_later hbx1 (cell_of_row ws _ 0 _ _ _ HG1.out); have HB1 := Lib.hid hb1; have HBX := Lib.hid hbx1; clear hs1 hp1 hbk1 hb1 hbx1)
        | (go_at_call 62; refine (HLO.out _ HBX.out).mono ?_; rintro e w2 ⟨A', n', c', rfl, hr2, hb2⟩; have hbx2 := HBX.out.trans (hb2.mono HBX.out.size); have HRW := Lib.hid hr2.read; have HBK' : Hid (∀ q, blk A' = some q → ws.heap.size ≤ q) := fun q hq => Nat.le_trans HBX.out.size (hr2.lt q hq).1; have c0 := cell_later hbx2 (cell_of_row ws _ 0 _ _ _ HG1.out); have HB2 := Lib.hid hb2; have HBX := Lib.hid hbx2; clear hr2 hb2 hbx2))
    all_goals
      go_wp2_with fail
      go_meet
      refine ⟨A, n, c, ns, A', n', c', rfl, rfl, ?_, HPM.out, ?_, HBX.out, HBK.out, HBK'.out⟩
      · first | exact HSR.out | exact HSR.out.below HB2.out
      · first | exact HRW.out | exact HRW.out.below HB1.out
  case rest =>
    obtain ⟨A, n, c, ns, A', n', c', rfl, rfl, hs, hp, hr, hb1, hbk, hbk'⟩ := hcut
    have hn : n ≤ 1000000 := by have h1 := hp.length_eq; have h2 := hs.len; omega
    have hn' : n' ≤ 1000000 := by have h1 := hr.len; rw [List.length_map] at h1; unfold Boxes.nums at h1; rw [List.length_map] at h1; omega
    have HSR := Lib.hid hs
    have HPM := Lib.hid hp
    have HRW := Lib.hid hr
    have HB1 := Lib.hid hb1
    have HBK := Lib.hid hbk
    have HBK' := Lib.hid hbk'
    have hwl : w.heap.size < ws.heap.size := (Array.getElem?_eq_some_iff.1 HG1.out).1
    have hnd : ∀ q, w.heap.size ≤ q → ¬ DB g m q := fun q hq e => by rcases e with e | e <;> omega
    have HND := Lib.hid hnd
    clear hs hp hr hb1 hbk hbk' hnd c0
    go_wp2_with fail
    go_loopw [15] (fun v15 wr => ∃ (i : Nat) (Fi : DiskF), i ≤ 16 ∧ v15 = .int .i64 (i : Int) ∧ DiskS wr g m cap Fi ∧ Stry F0 F Fi bs x B i 0 ∧ Only (DB g m) wc wr) (fun v15 _ => 16 - (intOf v15).toNat)
    case atStart => exact ⟨0, F, Nat.zero_le _, rfl, HD.out.below HB1.out, Stry.start HC.out, Only.refl _ _⟩
    case round =>
      obtain ⟨i, Fi, hi, rfl, hdi, hsi, hoi⟩ := hrel
      by_cases hlt : i < 16
      · obtain ⟨wk, hwk⟩ : ∃ wk, wk = wr.alloc (.cells #[.string ⟨#[105, 100, 120]⟩, .string ⟨#[102, 108, 103]⟩] 9) := ⟨_, rfl⟩
        have hbk : Below wr.heap.size wr wk := by rw [hwk]; exact (Below.refl _ _).alloc (Nat.le_refl _) _
        have hgk : wk.heap[wr.heap.size]? = some (.cells #[.string ⟨#[105, 100, 120]⟩, .string ⟨#[102, 108, 103]⟩] 9 (0, 0)) := by rw [hwk]; exact heap_alloc_new wr _
        have hsr : w.heap.size ≤ wr.heap.size := Nat.le_trans (Nat.le_of_lt hwl) (Nat.le_trans HB1.out.size hoi.size)
        have HDI := Lib.hid (hdi.below hbk)
        have HSI := Lib.hid hsi
        have HOI := Lib.hid (hoi.trans (Only.of_below hbk (DB g m)) (fun _ _ h => h))
        have HWK := Lib.hid hwk
        have HGK := Lib.hid hgk
        clear hdi hsi hoi hwk hbk hgk
        go_upto_region 6 with fail
        rw [← HWK.out]
        obtain ⟨kb, hkb⟩ : ∃ kb, wr.heap.size = kb := ⟨_, rfl⟩
        rw [hkb] at HGK hsr ⊢
        clear hkb
        go_wp2_with fail
        rw [show decide ((i : Int) < 16) = true from decide_eq_true (by omega)]
        go_loopw [20] (fun v20 wq => ∃ (j : Nat) (Fj : DiskF), j ≤ 2 ∧ v20 = .int .i64 (j : Int) ∧ DiskS wq g m cap Fj ∧ Stry F0 F Fj bs x B i j ∧ Only (DB g m) wk wq) (fun v20 _ => 2 - (intOf v20).toNat)
        case atStart => exact ⟨0, Fi, Nat.zero_le _, rfl, HDI.out, HSI.out, Only.refl _ _⟩
        case round =>
          obtain ⟨j, Fj, hj, rfl, hdj, hsj, hoj⟩ := hrel
          by_cases hlt2 : j < 2
          · obtain ⟨kd, hkd, hksz, hklit⟩ := kind_at j hlt2
            have hgq := hoj.heap HGK.out (HND.out _ hsr)
            have hcell : wr.cell? ⟨kb, j, none⟩ = some (.string kd) := by
              rw [cell_of_row wr _ j _ _ _ hgq]
              match j, hlt2 with
              | 0, _ => simp only [kindsS, List.getElem?_cons_zero, Option.some.injEq] at hkd; rw [← hkd]; rfl
              | 1, _ => simp only [kindsS, List.getElem?_cons_succ, List.getElem?_cons_zero, Option.some.injEq] at hkd; rw [← hkd]; rfl
            have hoc : Only (DB g m) wc wr := HOI.out.trans hoj (fun _ _ h => h)
            have hsrq := HSR.out.keep hoc (fun q hq => HND.out q (Nat.le_trans (Nat.le_of_lt hwl) (HBK.out q hq)))
            have hrwr := HRW.out.only hoc (fun q hq => HND.out q (Nat.le_trans (Nat.le_of_lt hwl) (HBK'.out q hq)))
            have hIC := icontains_any A' n' c' i bs.nums wr hrwr hn'
            have hbx := hoc.heap ((HB1.out.block _ (Array.getElem?_eq_some_iff.1 HG1.out).1).trans HG1.out) (HND.out _ (Nat.le_refl _))
            have HBX := Lib.hid hbx
            have HDJ := Lib.hid hdj
            have HSJ := Lib.hid hsj
            have HOJ := Lib.hid hoj
            have HSQ := Lib.hid hsrq
            have HF : Hid (∀ w, Calls Tryz.prog 75 #[.string kd, .int .i64 (i : Int)] w fun e w' => e = .returned (.string (pageN j i)) ∧ w' = w) := fun w => cfile_any kd (pageN j i) hksz i hlt (hklit i hlt) w
            clear hkd hklit hgq hoc hsrq hrwr hbx hdj hsj hoj
            by_cases hin : i ∈ bs.nums
            · rw [decide_eq_true hin] at hIC
              have HIC := Lib.hid hIC
              clear hIC hin
              go_wp2_with fail
              refine HIC.out.mono ?_
              rintro e w2 ⟨rfl, hw2⟩
              rw [hw2]
              clear hw2 w2
              go_wp2_with fail
              exact ⟨⟨j + 1, Fj, hlt2, by first | rfl | (congr 1), HDJ.out, HSJ.out.skip, HOJ.out⟩, by simp [intOf]; omega⟩
            · rw [decide_eq_false hin] at hIC
              have HIC := Lib.hid hIC
              have HIN := Lib.hid hin
              clear hIC hin
              cases hg : AL.get F (pageN j i) with
              | none =>
                have hSC := scontains_any A n c (pageN j i) ns wr HSQ.out hn
                rw [has_no HPM.out hg] at hSC
                have HSC := Lib.hid hSC
                clear hSC hg
                go_wp2_with fail
                refine HIC.out.mono ?_
                rintro e w2 ⟨rfl, hw2⟩
                rw [hw2]
                clear hw2 w2
                go_wp2_with fail
                refine (HF.out wr).mono ?_
                rintro e w2 ⟨rfl, hw2⟩
                rw [hw2]
                clear hw2 w2
                go_wp2_with fail
                refine HSC.out.mono ?_
                rintro e w2 ⟨rfl, hw2⟩
                rw [hw2]
                clear hw2 w2
                go_wp2_with fail
                exact ⟨⟨j + 1, Fj, hlt2, by first | rfl | (congr 1), HDJ.out, HSJ.out.skip, HOJ.out⟩, by simp [intOf]; omega⟩
              | some f =>
                have hSC := scontains_any A n c (pageN j i) ns wr HSQ.out hn
                rw [has_yes HPM.out hg] at hSC
                obtain ⟨hp1, hp2⟩ := HSJ.out.pages i hlt j hlt2 (.inr ⟨rfl, Nat.le_refl _⟩)
                rw [hg] at hp1
                have hsf := (HSJ.out.good.names _ f hp1).2
                have hp1' : AL.get Fj (pageN j i) = some (safeF f.b) := by rw [hp1]; exact congrArg some hsf
                have HAS : Hid (Calls Tryz.prog 77 #[.pointer (some ⟨g, 0, none⟩), .string (pageN j i)] wr.drew (AsideE wr.drew g m cap Fj (pageN j i))) := aside_any HDJ.out.drew HSJ.out.good.names (pageN_in i hlt j hlt2).1 hp1' hp2
                have HSC := Lib.hid hSC
                have HP1 := Lib.hid hp1
                have c0 : wr.cell? ⟨w.heap.size, 0, none⟩ = some (.pointer (some ⟨g, 0, none⟩)) := cell_of_row wr _ 0 _ _ _ HBX.out
                clear hSC hg hp1 hp2 hsf hp1'
                go_wp2_with fail
                refine HIC.out.mono ?_
                rintro e w2 ⟨rfl, hw2⟩
                rw [hw2]
                clear hw2 w2
                go_wp2_with fail
                refine (HF.out wr).mono ?_
                rintro e w2 ⟨rfl, hw2⟩
                rw [hw2]
                clear hw2 w2
                go_wp2_with fail
                refine HSC.out.mono ?_
                rintro e w2 ⟨rfl, hw2⟩
                rw [hw2]
                clear hw2 w2
                go_upto_region 9 with fail
                go_region_held (fun w' => w'.cell? ⟨w.heap.size, 0, none⟩ = some (.pointer (some ⟨g, 0, none⟩)))
                  (exact c0)
                  (first
                    | (go_at_call 75; refine (HF.out _).mono ?_; rintro e w7 ⟨rfl, rfl⟩)
                    | (go_at_call 77; refine HAS.out.mono ?_; rintro e w7 ⟨rfl, F7, hd7, hm7, ho7⟩; have c0 := ho7.cell c0 (HND.out _ (Nat.le_refl _)); have HD7 := Lib.hid hd7; have HM7 := Lib.hid hm7; have HO7 := Lib.hid ho7; clear hd7 hm7 ho7))
                all_goals
                  go_wp2_with fail
                  exact ⟨⟨j + 1, F7, hlt2, by first | rfl | (congr 1), HD7.out, HSJ.out.moved hlt hlt2 HIN.out HM7.out HDJ.out.nodup HD7.out.nodup HP1.out, (HOJ.out.drew).trans HO7.out (fun _ _ h => h)⟩, by simp [intOf]; omega⟩
          · obtain rfl : j = 2 := by omega
            have HDJ := Lib.hid hdj
            have HSJ := Lib.hid hsj
            have HOJ := Lib.hid (HOI.out.trans hoj (fun _ _ h => h))
            clear hdj hsj hoj
            go_wp2_with fail
            exact ⟨⟨i + 1, Fj, hlt, by first | rfl | (congr 1), HDJ.out, HSJ.out.next, HOJ.out⟩, by simp [intOf]; omega⟩
      · obtain rfl : i = 16 := by omega
        have HDI := Lib.hid hdi
        have HSI := Lib.hid hsi
        have HOI := Lib.hid hoi
        clear hdi hsi hoi
        go_wp2_with fail
        go_ret
        exact ⟨rfl, Fi, HDI.out, HSI.out, (Only.of_below (HBS.out.trans (HB1.out.mono HBS.out.size)) (DB g m)).trans HOI.out (fun _ _ h => h)⟩
end Go.Proofs.YtlhaempecidohaaGreatDoor
namespace Go.Proofs.YtlhaempecidohaaGreatDoor
open Go.RowKit
def sN (s : ByteArray) : List Value := [.string s]
theorem und106 : Tryz.prog.underlying 106 = some (.slice 9) := by kernel_rfl
theorem inf9 : (Tryz.prog.info? 9).map (fun i => (i.zero, i.size, i.bytes)) = some (some (.string ⟨#[]⟩), 1, 16) := by kernel_rfl
theorem SRow.of_row {w : World} {A : Option Addr} {n : Nat} {l : List ByteArray} (h : RowR w A n 1 (l.map sN)) : SRow w A n l := by
  refine ⟨by have := h.len; rwa [List.length_map] at this, fun h0 => ?_⟩
  obtain ⟨g, v, rfl, -, -, -⟩ := h.at_ h0
  refine ⟨g, rfl, fun i s hs => ?_⟩
  have hi : i < n := by
    have h1 := (List.getElem?_eq_some_iff.1 hs).1
    have h2 := h.len
    rw [List.length_map] at h2
    omega
  obtain ⟨g', x, e, hx, hr⟩ := h.map hi
  cases e
  rw [hs] at hx
  cases hx
  have := hr 0 _ rfl
  rwa [Nat.mul_one, Nat.add_zero] at this
theorem turn_other {bs : Boxes} {n k : Nat} {b c : BoxSt} (h : (k, c) ∈ bs) (hk : k ≠ n) : (k, c) ∈ bs.turn n b := by
  unfold Boxes.turn
  exact List.mem_map.2 ⟨(k, c), h, if_neg hk⟩
/-- what boxes hands back -/
def BoxesE (w : World) (g m cap : Nat) (F : DiskF) (B : BoxSt) (b : List Nat) (e : Ending) (w' : World) : Prop :=
  e = .returned (.int .i64 0) ∧ ∃ F', DiskS w' g m cap F' ∧ Mended F F' B b ∧ Only (DB g m) w w'
set_option maxRecDepth 10000 in
set_option maxHeartbeats 8000000 in
theorem cboxes_any {w : World} {g m cap : Nat} {F : DiskF} {bs : Boxes} {b : List Nat} {B : BoxSt} (h : DiskS w g m cap F) (hG : Good F bs (some b)) (hB : (0, B) ∈ bs) (hne : idxB B.idx ≠ b) (hbad : AL.get F (badN (idxN 0)) = none) (hE : Env w) (hg9 : 9 ≤ g ∧ 9 ≤ m) (hfit : F.total + 9000 ≤ cap) :
    Calls Tryz.prog 33 #[.agg #[.pointer (some ⟨g, 0, none⟩)]] w (BoxesE w g m cap F B b) := by
  obtain ⟨ws, hws⟩ : ∃ ws, ws = w.alloc (.cells #[.pointer (some ⟨g, 0, none⟩)] 82) := ⟨_, rfl⟩
  have hbs : Below w.heap.size w ws := by rw [hws]; exact (Below.refl _ _).alloc (Nat.le_refl _) _
  have hg1 : ws.heap[w.heap.size]? = some (.cells #[.pointer (some ⟨g, 0, none⟩)] 82 (0, 0)) := by rw [hws]; exact heap_alloc_new w _
  have hgm := h.lt
  have HD := Lib.hid (h.below hbs)
  have HLO := Lib.hid (Good.logs_any (h.below hbs) hG (hE.below hbs))
  have HG := Lib.hid hG
  have HB := Lib.hid hB
  have HNE := Lib.hid hne
  have HBAD := Lib.hid hbad
  have HE := Lib.hid (hE.below hbs)
  have HG9 := Lib.hid hg9
  have HFIT := Lib.hid hfit
  have HBS := Lib.hid hbs
  have HWS := Lib.hid hws
  have HG1 := Lib.hid hg1
  have hbl := hG.len
  have hwl : w.heap.size < ws.heap.size := (Array.getElem?_eq_some_iff.1 hg1).1
  have HND : Hid (∀ q, w.heap.size ≤ q → ¬ DB g m q) := fun q hq e => by rcases e with e | e <;> omega
  have c0 := cell_of_row ws _ 0 _ _ _ hg1
  clear h hG hB hne hbad hE hg9 hfit hbs hws hg1
  go_enter Tryz.func33, Tryz.ntmps33
  go_upto_region 1 with fail
  rw [← HWS.out]
  go_wp2_with fail
  refine HLO.out.mono ?_
  rintro e w1 ⟨A, n, c, rfl, hr, hb1⟩
  obtain ⟨NS, hNS⟩ : ∃ NS, bs.nums = NS := ⟨_, rfl⟩
  rw [hNS] at hr
  have hn : NS.length = n := by have := hr.len; rwa [List.length_map] at this
  have hn16 : n ≤ 16 := by rw [← hn, ← hNS]; unfold Boxes.nums; rw [List.length_map]; exact hbl
  have hfirst : NS[0]? = some 0 := by
    obtain ⟨b0, r, e1, -⟩ := HG.out.first
    rw [← hNS, e1]
    rfl
  have HRL : Hid (∀ q, blk A = some q → ws.heap.size ≤ q) := fun q hq => (hr.lt q hq).1
  have HR := Lib.hid hr.read
  have HB1 := Lib.hid hb1
  have HN : Hid (NS.length = n) := hn
  have HNS : Hid (bs.nums = NS) := hNS
  have HFI := Lib.hid hfirst
  clear hr hb1 hn hNS hfirst c0 HLO
  go_wp2_with fail
  go_loopw [17] (fun v17 wr => ∃ (i : Nat) (Fi : DiskF), i ≤ n ∧ v17 = .int .i64 (i : Int) ∧ DiskS wr g m cap Fi ∧ (i = 0 → Fi = F) ∧ (0 < i → Mended F Fi B b) ∧ Only (DB g m) w1 wr) (fun v17 _ => n - (intOf v17).toNat)
  case atStart => exact ⟨0, F, Nat.zero_le _, rfl, HD.out.below HB1.out, fun _ => rfl, fun h => by omega, Only.refl _ _⟩
  case round =>
    obtain ⟨i, Fi, hi, rfl, hdi, h0i, hmi, hoi⟩ := hrel
    have hEr : Env wr := (HE.out.below HB1.out).only hoi (fun q e => by have := HG9.out; rcases e with e | e <;> omega)
    have hbox := hoi.heap ((HB1.out.block _ (Array.getElem?_eq_some_iff.1 HG1.out).1).trans HG1.out) (HND.out _ (Nat.le_refl _))
    by_cases hlt : i < n
    · obtain ⟨gA, k, rfl, hk, hck⟩ := (HR.out.only hoi (fun q hq => HND.out q (Nat.le_trans (Nat.le_of_lt hwl) (HRL.out q hq)))).map hlt
      have hcell : wr.cell? ⟨gA, i, none⟩ = some (.int .i64 (k : Int)) := by have := hck 0 _ rfl; rwa [Nat.mul_one, Nat.add_zero] at this
      have c0 := cell_of_row wr _ 0 _ _ _ hbox
      by_cases hi0 : i = 0
      · subst hi0
        have hk0 : k = 0 := by rw [HFI.out] at hk; injection hk with hk; exact hk.symm
        subst hk0
        have hF : Fi = F := h0i rfl
        subst hF
        have hcell : wr.cell? ⟨gA, 0, none⟩ = some (.int .i64 0) := hcell
        have HMD := Lib.hid (mend_any hdi HG.out HB.out HNE.out HBAD.out hEr HG9.out HFIT.out)
        have HOI := Lib.hid hoi
        have hcell' : wr.cell? ⟨gA, 0, none⟩ = some (.int .i64 0) := hcell
        clear hdi h0i hmi hoi hEr hbox hk hck
        go_wp2_with fail
        refine HMD.out.mono ?_
        rintro e w2 ⟨s2, x2, y2, A2, n2, c2, F2, rfl, hd2, hm2, ho2⟩
        have hba : Below w2.heap.size w2 (w2.alloc (.cells #[.string s2, .int .u32 (x2 : Int), .int .u32 (y2 : Int), .slice A2 n2 c2] 49)) := (Below.refl _ _).alloc (Nat.le_refl _) _
        have HD2 := Lib.hid (hd2.below hba)
        have HM2 := Lib.hid hm2
        have HO2 := Lib.hid ((HOI.out.trans ho2 (fun _ _ h => h)).trans (Only.of_below hba (DB g m)) (fun _ _ h => h))
        clear hd2 hm2 ho2 hba
        go_wp2_with fail
        exact ⟨⟨1, F2, hlt, rfl, HD2.out, fun h => by omega, fun _ => HM2.out, HO2.out⟩, by simp [intOf]; omega⟩
      · have hmd := hmi (by omega)
        have hgd := hmd.good HG.out HB.out
        have hkm : k ∈ bs.nums := by rw [HNS.out]; exact List.mem_of_getElem? hk
        obtain ⟨p, hp, hpk⟩ := List.mem_map.1 hkm
        obtain ⟨k', bk⟩ := p
        have hpk' : k' = k := hpk
        subst hpk'
        have hk0 : k' ≠ 0 := fun e => by
          have hup := HG.out.up
          rw [HNS.out, List.pairwise_iff_getElem] at hup
          obtain ⟨h1, h2⟩ := List.getElem?_eq_some_iff.1 hk
          have h3 := (List.getElem?_eq_some_iff.1 HFI.out)
          obtain ⟨h4, h5⟩ := h3
          have := hup 0 i h4 h1 (by omega)
          omega
        have hWA := fun w' (hb : Below wr.heap.size wr w') => hgd.whole_at (hdi.below hb) (turn_other hp hk0) (hEr.below hb)
        have HMD := Lib.hid (mendW_any hWA)
        have HDI := Lib.hid hdi
        have HMI := Lib.hid hmd
        have HOI := Lib.hid hoi
        clear hdi h0i hmi hoi hEr hbox hk hck hmd hgd hkm hp hpk hk0 hWA
        go_wp2_with fail
        refine HMD.out.mono ?_
        rintro e w2 ⟨s2, x2, y2, A2, n2, c2, rfl, hb2⟩
        have hb2' : Below wr.heap.size wr (w2.alloc (.cells #[.string s2, .int .u32 (x2 : Int), .int .u32 (y2 : Int), .slice A2 n2 c2] 49)) := hb2.alloc hb2.size _
        have HB2 := Lib.hid hb2'
        clear hb2 hb2'
        go_wp2_with fail
        exact ⟨⟨i + 1, Fi, hlt, by first | rfl | (congr 1), HDI.out.below HB2.out, fun h => by omega, fun _ => HMI.out, HOI.out.trans (Only.of_below HB2.out (DB g m)) (fun _ _ h => h)⟩, by simp [intOf]; omega⟩
    · obtain rfl : i = n := by omega
      have hmd : Mended F Fi B b := hmi (by
        have := (List.getElem?_eq_some_iff.1 HFI.out).1
        have := HN.out
        omega)
      have hgd := hmd.good HG.out HB.out
      have HLO2 := Lib.hid (Good.logs_any hdi hgd hEr)
      have HDI := Lib.hid hdi
      have HMI := Lib.hid hmd
      have HOI := Lib.hid hoi
      have HGD := Lib.hid hgd
      have HER := Lib.hid hEr
      have HBOX := Lib.hid hbox
      have c0 := cell_of_row wr _ 0 _ _ _ hbox
      clear hdi h0i hmi hoi hEr hbox hmd hgd
      go_wp2_with fail
      refine HLO2.out.mono ?_
      rintro e w2 ⟨A2, n2, c2, rfl, hr2, hb2⟩
      rw [turn_nums, HNS.out] at hr2
      have hn2 : n2 = i := by have := hr2.len; rw [List.length_map, HN.out] at this; exact this.symm
      subst hn2
      have HR2 := Lib.hid hr2.read
      have HB2 := Lib.hid hb2
      have HDIW : Hid (Only (DB g m) w wr) := (Only.of_below (HBS.out.trans (HB1.out.mono HBS.out.size)) (DB g m)).trans HOI.out (fun _ _ h => h)
      clear hr2 hb2 c0 HLO2
      obtain ⟨wo, hwo⟩ : ∃ wo, wo = wr := ⟨_, rfl⟩
      rw [← hwo] at HDI HER HBOX HB2 HDIW
      clear hwo HOI
      obtain ⟨bt, hbt⟩ : ∃ bt, bt = bs.turn 0 B.anew := ⟨_, rfl⟩
      rw [← hbt] at HGD
      have hbtl : bt.length = n2 := by rw [hbt]; unfold Boxes.turn; rw [List.length_map, ← HN.out, ← HNS.out]; unfold Boxes.nums; rw [List.length_map]
      have hbtn : bt.nums = NS := by rw [hbt, turn_nums, HNS.out]
      have HBTL : Hid (bt.length = n2) := hbtl
      have HBTN : Hid (bt.nums = NS) := hbtn
      clear hbt hbtl hbtn
      go_wp2_with fail
      go_loopw [7, 36] (fun v7 v36 wr => ∃ (j : Nat) (G : Option Addr) (gc : Nat), j ≤ n2 ∧ v7 = .slice G j gc ∧ v36 = .int .i64 (j : Int) ∧ RowO wr w2.heap.size 9 1 G j gc (((bt.take j).map fun p => p.2.l.name).map sN) ∧ Below w2.heap.size w2 wr) (fun _ v36 _ => n2 - (intOf v36).toNat)
      case atStart => exact ⟨0, none, 0, Nat.zero_le _, rfl, rfl, RowO.nil _ _ _ _, Below.refl _ _⟩
      case round =>
        obtain ⟨j, G, gc, hj, rfl, rfl, hrow, hb⟩ := hrel
        have hbo := HB2.out.trans (hb.mono HB2.out.size)
        have HROW := Lib.hid hrow
        have HB := Lib.hid hb
        have HBO := Lib.hid hbo
        clear hrow hb hbo
        by_cases hlt2 : j < n2
        · obtain ⟨gA, k, rfl, hk, hck⟩ := (HR2.out.below HB.out).map hlt2
          have hcell : wr.cell? ⟨gA, j, none⟩ = some (.int .i64 (k : Int)) := by have := hck 0 _ rfl; rwa [Nat.mul_one, Nat.add_zero] at this
          obtain ⟨q, hq⟩ : ∃ q, bt[j]? = some q := ⟨_, List.getElem?_eq_getElem (by have := HBTL.out; omega)⟩
          have hqk : q.1 = k := by
            have h1 : bt.nums[j]? = some k := by rw [HBTN.out]; exact hk
            unfold Boxes.nums at h1
            rw [List.getElem?_map, hq] at h1
            injection h1
          obtain ⟨k', bk⟩ := q
          have hqk : k' = k := hqk
          subst hqk
          have hqm : (k', bk) ∈ bt := List.mem_of_getElem? hq
          obtain ⟨htk, hnot⟩ := take_apart HGD.out.apart hq
          have hWH : Calls Tryz.prog 35 #[.pointer (some ⟨g, 0, none⟩), .int .i64 (k' : Int)] wr (WhoE wr bk.box true) := HGD.out.whole_at (HDI.out.below HBO.out) hqm (HER.out.below HBO.out)
          unfold WhoE at hWH
          simp only [if_true] at hWH
          have hnm : (bk.box).name = bk.l.name := rfl
          rw [hnm] at hWH
          have HWH := Lib.hid hWH
          have HNOT : Hid (bk.l.name ∉ (bt.take j).map fun p => p.2.l.name) := hnot
          have HTK : Hid (bt.take (j + 1) = bt.take j ++ [(k', bk)]) := htk
          have hll : ((bt.take j).map fun p => p.2.l.name).length = j := by rw [List.length_map, List.length_take]; have := HBTL.out; omega
          have HLL := Lib.hid hll
          have hbox := (HBO.out.block _ (Array.getElem?_eq_some_iff.1 HBOX.out).1).trans HBOX.out
          have c0 : wr.cell? ⟨w.heap.size, 0, none⟩ = some (.pointer (some ⟨g, 0, none⟩)) := cell_of_row wr _ 0 _ _ _ hbox
          have hn16' := hn16
          clear hk hck hq hqm htk hnot hWH hnm hll hbox
          go_wp2_with fail
          refine HWH.out.mono ?_
          rintro e w3 ⟨A3, n3, c3, vs3, rfl, -, -, hb3⟩
          have HB3 := Lib.hid hb3
          have hz3 := hb3.size
          clear hb3 HWH c0
          unfold boxCells
          go_wp2_with fail
          have hbw4 := HB3.out.alloc HB3.out.size (.cells #[.string bk.l.name, .int .u32 ((bk.box).epoch : Int), .int .u32 ((bk.box).next : Int), .slice A3 n3 c3] 49)
          generalize hw4 : w3.alloc (.cells #[.string bk.l.name, .int .u32 ((bk.box).epoch : Int), .int .u32 ((bk.box).next : Int), .slice A3 n3 c3] 49) = w4 at hbw4 ⊢
          clear hw4
          have hrow4 := HROW.out.below hbw4
          have hsc := scontains_any G j gc bk.l.name _ w4 (SRow.of_row hrow4.read) (by omega)
          rw [memS_not.2 HNOT.out] at hsc
          have HSC := Lib.hid hsc
          have HROW4 := Lib.hid hrow4
          have HBW4 := Lib.hid hbw4
          have hz4 := hbw4.size
          have hz0 := HB.out.size
          clear hsc hrow4 hbw4
          refine HSC.out.mono ?_
          rintro e w5 ⟨rfl, hw5⟩
          rw [hw5]
          clear hw5 w5 HSC
          go_wp2_with (at_builtin; refine wp_append_row rfl (.tmp 66) (.tmp 68) 106 9 1 _ 16 und106 inf9 rfl (by decide) (by decide) rfl rfl rfl (HROW4.out.below ((Below.refl _ _).alloc (Nat.le_refl _) _)) (range_new w4 (sN bk.l.name) 9) rfl (by simp [sN, Value.oneCell']) (by omega) (by simp; omega) ?_; intro G5 c5 w5 hro5 ho5 hbk5; have HRO5 := Lib.hid hro5; have HO5 := Lib.hid ho5; have hb5 := (Below.refl w4.heap.size w4).alloc (Nat.le_refl _) (.cells (sN bk.l.name).toArray 9); have HB5 := Lib.hid hb5; clear hro5 ho5 hbk5 hb5)
          have hrl := HROW4.out.lt
          refine ⟨⟨j + 1, G5, c5, hlt2, rfl, by first | rfl | (congr 1), ?_, ?_⟩, by simp [intOf]; omega⟩
          · rw [HTK.out, List.map_append, List.map_append]
            exact HRO5.out
          · exact HB.out.trans (((HBW4.out.trans (HB5.out.mono HBW4.out.size)).mono HB.out.size).trans (HO5.out.below (Nat.le_trans hz0 (Nat.le_trans hz4 HB5.out.size)) (fun b hb e => by have := (hrl b e).1; omega)))
        · obtain rfl : j = n2 := by omega
          have hrow := HROW.out
          rw [List.take_of_length_le (by rw [HBTL.out]; exact Nat.le_refl _)] at hrow
          have hsr := SRow.of_row hrow.read
          have hsc := scontains_any G j gc inboxS _ wr hsr (by omega)
          have hin : memS inboxS (bt.map fun p => p.2.l.name) = true := by
            obtain ⟨b0, r, e1, e2⟩ := HGD.out.first
            rw [memS_iff, e1, ← e2]
            exact List.mem_cons_self ..
          rw [hin] at hsc
          have HSC : Hid (Calls Tryz.prog 78 #[.slice G j gc, .string ⟨#[73, 78, 66, 79, 88]⟩] wr fun e w' => e = .returned (.bool true) ∧ w' = wr) := hsc
          clear hrow hsr hsc hin
          go_wp2_with fail
          refine HSC.out.mono ?_
          rintro e w3 ⟨rfl, hw3⟩
          rw [hw3]
          clear hw3 w3
          go_wp2_with fail
          go_ret
          exact ⟨rfl, Fi, HDI.out.below HBO.out, HMI.out, HDIW.out.trans (Only.of_below HBO.out (DB g m)) (fun _ _ h => h)⟩
end Go.Proofs.YtlhaempecidohaaGreatDoor
namespace Go.Proofs.YtlhaempecidohaaGreatDoor
open Go.RowKit
/-- behind tree: the page is there; what it was may stand aside -/
structure Treed (F F' : DiskF) (l : List Nat) : Prop where
  here : AL.get F' treeN = some (safeF l)
  rest : ∀ s, s ≠ treeN → s ≠ badN treeN → AL.get F' s = AL.get F s
  tot : F'.total ≤ F.total + l.length
  new : AL.get F treeN = none → Upd F F' treeN (some (safeF l))
def TreedE (w : World) (g m cap : Nat) (F : DiskF) (l : List Nat) (e : Ending) (w' : World) : Prop :=
  e = .returned (.int .i64 0) ∧ ∃ F', DiskS w' g m cap F' ∧ Treed F F' l ∧ Only (DB g m) w w'
theorem treeB_short {l : List PlaceS} (h : TreeOK l) : (treeB l).length ≤ 1200 := by
  unfold treeB; rw [page_length]; have := treeP_len h; omega
set_option maxRecDepth 8000 in
set_option maxHeartbeats 2000000 in
theorem ctree_any {w : World} {g m cap : Nat} {F : DiskF} {bs : Boxes} (h : DiskS w g m cap F) (hG : Good F bs none) (hbad : AL.get F (badN treeN) = none) (hE : Env w) (hg9 : 9 ≤ g ∧ 9 ≤ m) (hfit : F.total + (treeB bs.places).length ≤ cap) :
    Calls Tryz.prog 34 #[.agg #[.pointer (some ⟨g, 0, none⟩)]] w (TreedE w g m cap F (treeB bs.places)) := by
  obtain ⟨ws, hws⟩ : ∃ ws, ws = w.alloc (.cells #[.pointer (some ⟨g, 0, none⟩)] 82) := ⟨_, rfl⟩
  have hbs : Below w.heap.size w ws := by rw [hws]; exact (Below.refl _ _).alloc (Nat.le_refl _) _
  have hg1 : ws.heap[w.heap.size]? = some (.cells #[.pointer (some ⟨g, 0, none⟩)] 82 (0, 0)) := by rw [hws]; exact heap_alloc_new w _
  have hgm := h.lt
  have HT := Lib.hid (tree_any (h.below hbs) hG (hE.below hbs))
  have hsh := treeB_short hG.treeOK
  have hname := hG.names
  have hnew := hG.new
  have hD := h.below hbs
  have hn0 := h.nodup
  generalize treeB bs.places = tb at HT hsh hfit ⊢
  have HD := Lib.hid hD
  have HBS := Lib.hid hbs
  have HG1 := Lib.hid hg1
  have HWS := Lib.hid hws
  have HBAD := Lib.hid hbad
  have HNM := Lib.hid hname
  have HNEW := Lib.hid hnew
  have HN0 := Lib.hid hn0
  have hwl : w.heap.size < ws.heap.size := (Array.getElem?_eq_some_iff.1 hg1).1
  have c0 := cell_of_row ws _ 0 _ _ _ hg1
  clear h hG hbad hE hg9 hbs hws hg1 hname hnew hD hn0
  go_enter Tryz.func34, Tryz.ntmps34
  go_upto_region 1 with fail
  rw [← HWS.out]
  go_wp2_with fail
  refine HT.out.mono ?_
  rintro e w1 ⟨A, n, c, rfl, hown, hb1⟩
  have hnl : tb.length = n := hown.read.1
  have hle := hown.le
  have HRB := Lib.hid hown.read
  have HB1 := Lib.hid hb1
  have HD1 := Lib.hid (HD.out.below hb1)
  have hbox := (hb1.block _ hwl).trans HG1.out
  have c0 := cell_of_row w1 _ 0 _ _ _ hbox
  have HBX := Lib.hid hbox
  have hOL := hown.lt
  clear hown hb1 hbox HT
  cases ht : AL.get F treeN with
  | none =>
    have HRD : Hid (Calls Tryz.prog 9 #[.pointer (some ⟨g, 0, none⟩), .string ⟨#[116, 114, 101, 101]⟩] w1 fun e w' => e = .returned (.tuple #[.slice none 0 0, .int .i64 7]) ∧ Below w1.heap.size w1 w') := read_no HD1.out (s := treeN) (by decide) ht
    have HTN := Lib.hid ht
    clear ht
    go_wp2_with fail
    refine HRD.out.mono ?_
    rintro e w2 ⟨rfl, hb2⟩
    have HLY : Hid (Calls Tryz.prog 41 #[.pointer (some ⟨g, 0, none⟩), .string ⟨#[116, 114, 101, 101]⟩, .slice A n c] w2 (Changed w2 g m cap F treeN (some (safeF tb)))) := lay_any (HD1.out.below hb2) (s := treeN) (by decide) (by decide) HNEW.out (HRB.out.below hb2) hle (by omega)
    have hbox := (hb2.block _ (Array.getElem?_eq_some_iff.1 HBX.out).1).trans HBX.out
    have c0 := cell_of_row w2 _ 0 _ _ _ hbox
    have HB2 := Lib.hid (HB1.out.trans (hb2.mono HB1.out.size))
    clear hb2 HRD hbox
    go_wp2_with fail
    refine HLY.out.mono ?_
    rintro e w3 ⟨rfl, F3, hd3, hu3, ho3⟩
    have HD3 := Lib.hid hd3
    have HU3 := Lib.hid hu3
    have HO3 := Lib.hid ho3
    clear hd3 hu3 ho3
    go_wp2_with fail
    go_ret
    refine ⟨rfl, F3, HD3.out, ⟨HU3.out.same, fun s hs _ => HU3.out.other hs, ?_, fun _ => HU3.out⟩, (Only.of_below (HBS.out.trans (HB2.out.mono HBS.out.size)) (DB g m)).trans HO3.out (fun _ _ h => h)⟩
    have := HU3.out.total HN0.out HD3.out.nodup
    rw [HTN.out] at this
    have e1 : lenF (none : Option FileS) = 0 := rfl
    have e2 : lenF (some (safeF tb)) = tb.length := rfl
    omega
  | some f =>
    have hsf := (HNM.out _ _ ht).2
    have HRD : Hid (Calls Tryz.prog 9 #[.pointer (some ⟨g, 0, none⟩), .string ⟨#[116, 114, 101, 101]⟩] w1 (GotB w1 f.b)) := read_yes HD1.out (s := treeN) (by decide) ht
    generalize hfb : f.b = lf at HRD hsf
    rw [hsf] at ht
    clear hsf hfb f
    have HTN := Lib.hid ht
    clear ht
    go_wp2_with fail
    refine HRD.out.mono ?_
    rintro e w2 ⟨A2, c2, rfl, hown2, hb2⟩
    have HEQ := Lib.hid (equal_any A2 A _ c2 n c lf tb w2 hown2.read (HRB.out.below hb2))
    have hbox := (hb2.block _ (Array.getElem?_eq_some_iff.1 HBX.out).1).trans HBX.out
    have c0 := cell_of_row w2 _ 0 _ _ _ hbox
    have HB2 := Lib.hid (HB1.out.trans (hb2.mono HB1.out.size))
    have HRB2 := Lib.hid (HRB.out.below hb2)
    have HD2 := Lib.hid (HD1.out.below hb2)
    clear hb2 HRD hbox hown2
    generalize lf.length = ln at HEQ ⊢
    go_wp2_with fail
    refine HEQ.out.mono ?_
    rintro e w3 ⟨rfl, hw3⟩
    rw [hw3]
    clear hw3 w3 HEQ
    by_cases heq : lf = tb
    · rw [decide_eq_true heq]
      have HEQ := Lib.hid heq
      clear heq
      go_wp2_with fail
      go_ret
      refine ⟨rfl, F, HD2.out, ⟨?_, fun _ _ _ => rfl, by omega, fun h0 => ?_⟩, Only.of_below (HBS.out.trans (HB2.out.mono HBS.out.size)) (DB g m)⟩
      · rw [HTN.out, HEQ.out]
      · rw [HTN.out] at h0; cases h0
    · rw [decide_eq_false heq]
      have HAS : Hid (Calls Tryz.prog 77 #[.pointer (some ⟨g, 0, none⟩), .string ⟨#[116, 114, 101, 101]⟩] w2 (AsideE w2 g m cap F treeN)) := aside_any HD2.out HNM.out tree_in HTN.out HBAD.out
      clear heq
      go_wp2_with fail
      refine HAS.out.mono ?_
      rintro e w3 ⟨rfl, F3, hd3, hm3, ho3⟩
      have hne : treeN ≠ badN treeN := fun e => bad_ne tree_in e.symm
      have ht3 : F3.total = F.total := hm3.total HN0.out hd3.nodup hne HTN.out HBAD.out
      have hnew3 : AL.get F3 newN = none := by rw [hm3.stays new_in (by decide)]; exact HNEW.out
      have hnt3 : AL.get F3 treeN = none := by rw [hm3, if_pos rfl]
      have hrb3 : RB w3 A n tb := HRB2.out.only ho3 (fun q hq e => by have := (hOL q hq).1; rcases e with e | e <;> omega)
      have hbox := ho3.heap (((HB2.out.block _ (Array.getElem?_eq_some_iff.1 HG1.out).1).trans HG1.out)) (fun e => by rcases e with e | e <;> omega)
      have c0 := cell_of_row w3 _ 0 _ _ _ hbox
      have HLY : Hid (Calls Tryz.prog 41 #[.pointer (some ⟨g, 0, none⟩), .string ⟨#[116, 114, 101, 101]⟩, .slice A n c] w3 (Changed w3 g m cap F3 treeN (some (safeF tb)))) := lay_any hd3 (s := treeN) (by decide) (by decide) hnew3 hrb3 hle (by omega)
      have HM3 := Lib.hid hm3
      have HO3 := Lib.hid ho3
      have HT3 := Lib.hid hnt3
      have HN3 := Lib.hid hd3.nodup
      clear hd3 hm3 ho3 hne hnew3 hnt3 hrb3 hbox HAS
      go_wp2_with fail
      refine HLY.out.mono ?_
      rintro e w4 ⟨rfl, F4, hd4, hu4, ho4⟩
      have HD4 := Lib.hid hd4
      have HU4 := Lib.hid hu4
      have HO4 := Lib.hid ho4
      clear hd4 hu4 ho4
      go_wp2_with fail
      go_ret
      refine ⟨rfl, F4, HD4.out, ⟨HU4.out.same, fun s hs hsb => ?_, ?_, fun h0 => ?_⟩, ((Only.of_below (HBS.out.trans (HB2.out.mono HBS.out.size)) (DB g m)).trans HO3.out (fun _ _ h => h)).trans HO4.out (fun _ _ h => h)⟩
      · rw [HU4.out.other hs, HM3.out, if_neg hs, if_neg hsb]
      · have := HU4.out.total HN3.out HD4.out.nodup
        rw [HT3.out] at this
        have e1 : lenF (none : Option FileS) = 0 := rfl
        have e2 : lenF (some (safeF tb)) = tb.length := rfl
        omega
      · rw [HTN.out] at h0; cases h0
end Go.Proofs.YtlhaempecidohaaGreatDoor
namespace Go.Proofs.YtlhaempecidohaaGreatDoor
open Go.RowKit
def ckF (g n : Nat) : Value := .func (Fn.func n) #[.agg #[.pointer (some ⟨g, 0, none⟩)]] #[]
set_option maxRecDepth 8000 in
set_option maxHeartbeats 2000000 in
theorem check_of {w : World} {g m cap : Nat} {F : DiskF} (P : Nat → World → Prop) (h : DiskS w g m cap F) (hnew : AL.get F newN = none)
    (hP0 : ∀ w', Below w.heap.size w w' → P 0 w')
    (hst : ∀ i < 4, ∀ w1, P i w1 → Calls Tryz.prog (31 + i) #[.agg #[.pointer (some ⟨g, 0, none⟩)]] w1 fun e w2 => e = .returned (.int .i64 0) ∧ P (i + 1) w2 ∧ Only (DB g m) w1 w2) :
    Calls Tryz.prog 11 #[.pointer (some ⟨g, 0, none⟩)] w fun e w' => e = .returned (.int .i64 0) ∧ P 4 w' ∧ Only (DB g m) w w' := by
  have hmf : ∀ (fn : Fn) (first cap : Array Value) (w : World), (Instr.makeFunc fn first cap).run Tryz.prog w = .ok (.func fn first cap) w := fun _ _ _ _ => rfl
  have hgm := h.lt
  have HLO := Lib.hid (lost_no h)
  have HRM : Hid (Calls Tryz.prog 30 #[.pointer (some ⟨g, 0, none⟩), .string ⟨#[110, 101, 119]⟩] w fun e w' => e = .returned (.int .i64 7) ∧ Below w.heap.size w w') := remove_no h (s := newN) (by decide) hnew
  have HP0 := Lib.hid hP0
  have h0 := Lib.hid (hst 0 (by decide))
  have h1 := Lib.hid (hst 1 (by decide))
  have h2 := Lib.hid (hst 2 (by decide))
  have h3 := Lib.hid (hst 3 (by decide))
  clear h hnew hP0 hst
  go_enter Tryz.func11, Tryz.ntmps11
  go_wp2_with fail
  refine HLO.out.mono ?_
  rintro e w1 ⟨rfl, hw1⟩
  rw [← hw1]
  clear hw1 w1 HLO
  go_wp2_with fail
  refine HRM.out.mono ?_
  rintro e w1 ⟨rfl, hb1⟩
  have HB1 := Lib.hid hb1
  have hz1 := hb1.size
  clear hb1 HRM
  go_wp2_with fail
  have hws := ((Below.refl w1.heap.size w1).alloc (Nat.le_refl _) (.cells #[.pointer (some ⟨g, 0, none⟩)] 82)).alloc (by simp) (.cells #[ckF g 31, ckF g 32, ckF g 33, ckF g 34] 79)
  have hgs : ((w1.alloc (.cells #[.pointer (some ⟨g, 0, none⟩)] 82)).alloc (.cells #[ckF g 31, ckF g 32, ckF g 33, ckF g 34] 79)).heap[w1.heap.size + 1]? = some (.cells #[ckF g 31, ckF g 32, ckF g 33, ckF g 34] 79 (0, 0)) := by
    have := heap_alloc_new (w1.alloc (.cells #[.pointer (some ⟨g, 0, none⟩)] 82)) (.cells #[ckF g 31, ckF g 32, ckF g 33, ckF g 34] 79)
    rwa [World.size_alloc] at this
  obtain ⟨ws, hw⟩ : ∃ ws, ws = (w1.alloc (.cells #[.pointer (some ⟨g, 0, none⟩)] 82)).alloc (.cells #[ckF g 31, ckF g 32, ckF g 33, ckF g 34] 79) := ⟨_, rfl⟩
  rw [← hw] at hws hgs
  have HW := Lib.hid hw
  have HGS := Lib.hid hgs
  have HB2 := Lib.hid (HB1.out.trans (hws.mono hz1))
  clear hw hws hgs
  show Code.wp _ _ _ _ ((w1.alloc (.cells #[.pointer (some ⟨g, 0, none⟩)] 82)).alloc (.cells #[ckF g 31, ckF g 32, ckF g 33, ckF g 34] 79))
  rw [← HW.out]
  clear HW
  go_loopw [35] (fun v35 wr => ∃ (i : Nat), i ≤ 4 ∧ v35 = .int .i64 (i : Int) ∧ P i wr ∧ Only (DB g m) ws wr) (fun v35 _ => 4 - (intOf v35).toNat)
  case atStart => exact ⟨0, by omega, rfl, HP0.out _ HB2.out, Only.refl _ _⟩
  case round =>
    obtain ⟨i, hi, rfl, hp, hor⟩ := hrel
    have hbox := hor.heap HGS.out (fun e => by rcases e with e | e <;> omega)
    obtain hq0 | hq1 | hq2 | hq3 | hq4 : i = 0 ∨ i = 1 ∨ i = 2 ∨ i = 3 ∨ i = 4 := by omega
    · subst hq0
      have c0 : wr.cell? ⟨w1.heap.size + 1, 0, none⟩ = some (ckF g 31) := cell_of_row wr _ 0 _ _ _ hbox
      unfold ckF at c0
      have HC : Hid (Calls Tryz.prog 31 #[.agg #[.pointer (some ⟨g, 0, none⟩)]] wr fun e w2 => e = .returned (.int .i64 0) ∧ P 1 w2 ∧ Only (DB g m) wr w2) := h0.out wr hp
      have HOR := Lib.hid hor
      clear hp hor hbox
      go_wp2_with fail
      refine HC.out.mono ?_
      rintro e w2 ⟨rfl, hp2, ho2⟩
      have HP2 := Lib.hid hp2
      have HO2 := Lib.hid ho2
      clear hp2 ho2
      go_wp2_with fail
      exact ⟨⟨1, by omega, rfl, HP2.out, HOR.out.trans HO2.out (fun _ _ h => h)⟩, by simp [intOf]⟩
    · subst hq1
      have c0 : wr.cell? ⟨w1.heap.size + 1, 1, none⟩ = some (ckF g 32) := cell_of_row wr _ 1 _ _ _ hbox
      unfold ckF at c0
      have HC : Hid (Calls Tryz.prog 32 #[.agg #[.pointer (some ⟨g, 0, none⟩)]] wr fun e w2 => e = .returned (.int .i64 0) ∧ P 2 w2 ∧ Only (DB g m) wr w2) := h1.out wr hp
      have HOR := Lib.hid hor
      clear hp hor hbox
      go_wp2_with fail
      refine HC.out.mono ?_
      rintro e w2 ⟨rfl, hp2, ho2⟩
      have HP2 := Lib.hid hp2
      have HO2 := Lib.hid ho2
      clear hp2 ho2
      go_wp2_with fail
      exact ⟨⟨2, by omega, rfl, HP2.out, HOR.out.trans HO2.out (fun _ _ h => h)⟩, by simp [intOf]⟩
    · subst hq2
      have c0 : wr.cell? ⟨w1.heap.size + 1, 2, none⟩ = some (ckF g 33) := cell_of_row wr _ 2 _ _ _ hbox
      unfold ckF at c0
      have HC : Hid (Calls Tryz.prog 33 #[.agg #[.pointer (some ⟨g, 0, none⟩)]] wr fun e w2 => e = .returned (.int .i64 0) ∧ P 3 w2 ∧ Only (DB g m) wr w2) := h2.out wr hp
      have HOR := Lib.hid hor
      clear hp hor hbox
      go_wp2_with fail
      refine HC.out.mono ?_
      rintro e w2 ⟨rfl, hp2, ho2⟩
      have HP2 := Lib.hid hp2
      have HO2 := Lib.hid ho2
      clear hp2 ho2
      go_wp2_with fail
      exact ⟨⟨3, by omega, rfl, HP2.out, HOR.out.trans HO2.out (fun _ _ h => h)⟩, by simp [intOf]⟩
    · subst hq3
      have c0 : wr.cell? ⟨w1.heap.size + 1, 3, none⟩ = some (ckF g 34) := cell_of_row wr _ 3 _ _ _ hbox
      unfold ckF at c0
      have HC : Hid (Calls Tryz.prog 34 #[.agg #[.pointer (some ⟨g, 0, none⟩)]] wr fun e w2 => e = .returned (.int .i64 0) ∧ P 4 w2 ∧ Only (DB g m) wr w2) := h3.out wr hp
      have HOR := Lib.hid hor
      clear hp hor hbox
      go_wp2_with fail
      refine HC.out.mono ?_
      rintro e w2 ⟨rfl, hp2, ho2⟩
      have HP2 := Lib.hid hp2
      have HO2 := Lib.hid ho2
      clear hp2 ho2
      go_wp2_with fail
      exact ⟨⟨4, by omega, rfl, HP2.out, HOR.out.trans HO2.out (fun _ _ h => h)⟩, by simp [intOf]⟩
    · subst hq4
      have HP := Lib.hid hp
      have HOR := Lib.hid hor
      clear hp hor hbox
      go_wp2_with fail
      go_ret
      exact ⟨rfl, HP.out, (Only.of_below HB2.out (DB g m)).trans HOR.out (fun _ _ h => h)⟩
end Go.Proofs.YtlhaempecidohaaGreatDoor
namespace Go.Proofs.YtlhaempecidohaaGreatDoor
open Go.RowKit
theorem Mended.tot {F F' : DiskF} {bs : Boxes} {B : BoxSt} {b : List Nat} (h : Mended F F' B b) (hG : Good F bs (some b)) (hB : (0, B) ∈ bs) (hbad : AL.get F (badN (idxN 0)) = none) (hF : (AL.keys F).Nodup) (hF' : (AL.keys F').Nodup) : F'.total ≤ F.total + 8024 := by
  have h16 : (0 : Nat) < 16 := by decide
  have hW : Whole B.ns B.f := hG.whole _ hB
  have hpo := hW.pagesOk hW.flags
  have hfl : (flgB B.anew.f).length ≤ 3012 ∧ (idxB B.idx).length ≤ 5012 := by
    have h1 := hpo
    unfold pagesOk at h1
    rw [Bool.and_eq_true] at h1
    exact ⟨rightFlg_bytes h1.1, rightIdx_bytes h1.2⟩
  have hin := names_in 0 h16
  have n1 : badN (idxN 0) ≠ idxN 0 := bad_ne hin.2.1
  have n2 : badN (idxN 0) ≠ flgN 0 := bad_ne hin.2.2
  have n3 : idxN 0 ≠ flgN 0 := (names_inj 0 h16 0 h16).2.2.2.2.2
  have u1 := Upd.put F (badN (idxN 0)) (safeF b)
  have d1 := AL.nodup_put hF (badN (idxN 0)) (safeF b)
  have t1 := u1.total hF d1
  have g1 : AL.get (AL.put F (badN (idxN 0)) (safeF b)) (idxN 0) = some (safeF b) := (u1.other n1.symm).trans (hG.idx0 b rfl)
  generalize AL.put F (badN (idxN 0)) (safeF b) = F1 at u1 d1 t1 g1
  have u2 := Upd.put F1 (idxN 0) (safeF (idxB B.idx))
  have d2 := AL.nodup_put d1 (idxN 0) (safeF (idxB B.idx))
  have t2 := u2.total d1 d2
  generalize AL.put F1 (idxN 0) (safeF (idxB B.idx)) = F2 at u2 d2 t2
  have u3 := Upd.put F2 (flgN 0) (safeF (flgB B.anew.f))
  have d3 := AL.nodup_put d2 (flgN 0) (safeF (flgB B.anew.f))
  have t3 := u3.total d2 d3
  generalize AL.put F2 (flgN 0) (safeF (flgB B.anew.f)) = F3 at u3 d3 t3
  have e := total_of_get hF' d3 (fun s => by
    rw [h s, u3 s, u2 s, u1 s]
    by_cases h1 : s = idxN 0
    · rw [if_pos h1, if_neg (fun e => n3 (h1.symm.trans e)), if_pos h1]
    · rw [if_neg h1]
      by_cases h2 : s = flgN 0
      · rw [if_pos h2, if_pos h2]
      · rw [if_neg h2, if_neg h2, if_neg h1])
  rw [hbad] at t1
  rw [g1] at t2
  have l0 : lenF (none : Option FileS) = 0 := rfl
  have l1 : lenF (some (safeF b)) = b.length := rfl
  have l2 : lenF (some (safeF (idxB B.idx))) = (idxB B.idx).length := rfl
  have l3 : lenF (some (safeF (flgB B.anew.f))) = (flgB B.anew.f).length := rfl
  omega
/-- the steps of Check behind a harm -/
def Step (g m cap : Nat) (F1 : DiskF) (B : BoxSt) (b : List Nat) (i : Nat) (w : World) : Prop :=
  Env w ∧ match i with
  | 0 => ∃ bs, DiskS w g m cap F1 ∧ Chk F1 F1 bs (some b) B
  | 1 => ∃ F' bs, DiskS w g m cap F' ∧ Chk F1 F' bs (some b) B
  | 2 => ∃ F' F2 bs, DiskS w g m cap F' ∧ Stry F1 F2 F' bs (some b) B 16 0
  | 3 => ∃ F' bs, DiskS w g m cap F' ∧ Good F' bs none ∧ AL.get F' (badN treeN) = none ∧ AL.get F' (badN (idxN 0)) = some (safeF b) ∧ AL.get F' (idxN 0) = some (safeF (idxB B.idx)) ∧ F'.total ≤ F1.total + 8024
  | _ => ∃ F', DiskS w g m cap F' ∧ AL.get F' (badN (idxN 0)) = some (safeF b) ∧ AL.get F' (idxN 0) = some (safeF (idxB B.idx))
def AsideEnd (w : World) (g m cap : Nat) (B : BoxSt) (b : List Nat) (e : Ending) (w' : World) : Prop :=
  e = .returned (.int .i64 0) ∧ (∃ F', DiskS w' g m cap F' ∧ AL.get F' (badN (idxN 0)) = some (safeF b) ∧ AL.get F' (idxN 0) = some (safeF (idxB B.idx))) ∧ Only (DB g m) w w'
theorem check_harmed {w : World} {g m cap : Nat} {F F1 : DiskF} {bs : Boxes} {b : List Nat} {B : BoxSt} (h : DiskS w g m cap F1) (hR : Rest F bs) (hu : Upd F F1 (idxN 0) (some (safeF b))) (hB : (0, B) ∈ bs) (hne : idxB B.idx ≠ b) (hE : Env w) (hg9 : 9 ≤ g ∧ 9 ≤ m) (hfit : F1.total + 12000 ≤ cap) :
    Calls Tryz.prog 11 #[.pointer (some ⟨g, 0, none⟩)] w (AsideEnd w g m cap B b) := by
  obtain ⟨hG, hbare, htree, hpl⟩ := hR.harm hu
  have hnb : ∀ s, AL.get F1 (badN s) = none := fun s => by
    cases hg : AL.get F1 (badN s) with
    | none => rfl
    | some f => exact absurd (hpl _ _ hg).1 (bad_nin s)
  have h16 : (0 : Nat) < 16 := by decide
  have hdb : ∀ q, DB g m q → 9 ≤ q := fun q e => by rcases e with e | e <;> omega
  have hC : Chk F1 F1 bs (some b) B := ⟨hG, hB, hnb _, rfl, hnb _, fun n _ => ⟨hnb _, hnb _⟩, fun n _ => hnb _, rfl⟩
  refine (check_of (Step g m cap F1 B b) h hG.new (fun w' hb => ⟨hE.below hb, bs, h.below hb, hC⟩) ?_).mono ?_
  · intro i hi w1 hP
    obtain ⟨hE1, hP⟩ := hP
    obtain rfl | rfl | rfl | rfl : i = 0 ∨ i = 1 ∨ i = 2 ∨ i = 3 := by omega
    · obtain ⟨bs1, hd1, hc1⟩ := hP
      refine (csame_any hd1 hc1 hE1 hg9).mono ?_
      rintro e w2 ⟨rfl, F2, bs2, hd2, hc2, ho2⟩
      exact ⟨rfl, ⟨hE1.only ho2 hdb, F2, bs2, hd2, hc2⟩, ho2⟩
    · obtain ⟨F2, bs2, hd2, hc2⟩ := hP
      refine (cstray_any hd2 hc2 hE1).mono ?_
      rintro e w2 ⟨rfl, F3, hd3, hc3, ho3⟩
      exact ⟨rfl, ⟨hE1.only ho3 hdb, F3, F2, bs2, hd3, hc3⟩, ho3⟩
    · obtain ⟨F3, F2, bs2, hd3, hs⟩ := hP
      have ht := hs.tot
      refine (cboxes_any hd3 hs.good hs.mem hne hs.idx0 hE1 hg9 (by omega)).mono ?_
      rintro e w2 ⟨rfl, F4, hd4, hm4, ho4⟩
      have hin := names_in 0 h16
      refine ⟨rfl, ⟨hE1.only ho4 hdb, F4, _, hd4, hm4.good hs.good hs.mem, ?_, hm4.aside.1, hm4.aside.2, ?_⟩, ho4⟩
      · rw [hm4, if_neg (bad_ne hin.2.1), if_neg (bad_ne hin.2.2), if_neg (fun e => (names_apart 0 h16).2.2.1 (bad_inj e).symm)]
        exact hs.badt
      · have := hm4.tot hs.good hs.mem hs.idx0 hd3.nodup hd4.nodup
        omega
    · obtain ⟨F4, bs4, hd4, hg4, hbt, ha1, ha2, ht⟩ := hP
      have htb := treeB_short hg4.treeOK
      refine (ctree_any hd4 hg4 hbt hE1 hg9 (by omega)).mono ?_
      rintro e w2 ⟨rfl, F5, hd5, ht5, ho5⟩
      have hin := names_in 0 h16
      have hne' : idxN 0 ≠ treeN := (names_apart 0 h16).2.2.1
      refine ⟨rfl, ⟨hE1.only ho5 hdb, F5, hd5, ?_, ?_⟩, ho5⟩
      · rw [ht5.rest _ (bad_ne tree_in) (fun e => hne' (bad_inj e))]; exact ha1
      · rw [ht5.rest _ hne' (fun e => bad_ne hin.2.1 e.symm)]; exact ha2
  · rintro e w' ⟨rfl, ⟨-, F5, hd, h1, h2⟩, ho⟩
    exact ⟨rfl, ⟨F5, hd, h1, h2⟩, ho⟩
end Go.Proofs.YtlhaempecidohaaGreatDoor
