/-
  Package fsck: Check of an empty disk: the mailbox INBOX is begun, the tree laid. Package server: Open of an empty disk. Package server: Connect. Package world: New, connect, Do, Said; awake. The law: Roomy, Do. The law: few, Few: how many operations there are, and how much they hold.
-/
import Derived.Test.YtlhaempecidohaaGreatDoorJbt
import Derived.Test.YtlhaempecidohaaGreatDoorJbq
import Derived.Test.YtlhaempecidohaaGreatDoorJax
import Derived.Deep.RegionWith
import Derived.Test.YtlhaempecidohaaGreatDoorJaq
import Derived.Test.YtlhaempecidohaaGreatDoorJad
import Derived.Test.YtlhaempecidohaaGreatDoorJbs
set_option linter.unusedSimpArgs false
set_option linter.unusedVariables false
namespace Go.Proofs.YtlhaempecidohaaGreatDoor
open Go.RowKit
theorem nil_names : Names Nm ([] : DiskF) := fun s f hf => by cases hf
theorem nil_logs {w : World} {g m cap : Nat} (h : DiskS w g m cap []) (hE : Env w) : Calls Tryz.prog 62 #[.pointer (some ⟨g, 0, none⟩)] w (LogsE w []) :=
  logs_any h nil_names [] List.Pairwise.nil (fun n hn => by cases hn) (fun n _ _ => rfl) (fun n hn => by cases hn) hE
set_option maxRecDepth 8000 in
set_option maxHeartbeats 1000000 in
theorem nsame_any {w : World} {g m cap : Nat} (h : DiskS w g m cap []) (hE : Env w) :
    Calls Tryz.prog 31 #[.agg #[.pointer (some ⟨g, 0, none⟩)]] w fun e w' => e = .returned (.int .i64 0) ∧ Below w.heap.size w w' := by
  have hmk : ∀ w, (Instr.makeMap 137 none).run Tryz.prog w = .ok (.map (some w.heap.size)) (w.alloc (.map #[] 0)) := fun w => by kernel_rfl
  obtain ⟨ws, hws⟩ : ∃ ws, ws = (w.alloc (.cells #[.pointer (some ⟨g, 0, none⟩)] 82)).alloc (.map #[] 0) := ⟨_, rfl⟩
  have hbs : Below w.heap.size w ws := by rw [hws]; exact ((Below.refl _ _).alloc (Nat.le_refl _) _).alloc (by simp) _
  have hg1 : ws.heap[w.heap.size]? = some (.cells #[.pointer (some ⟨g, 0, none⟩)] 82 (0, 0)) := by
    rw [hws, Below.heap_alloc _ _ _ (by simp)]; exact heap_alloc_new w _
  have HLO := Lib.hid (nil_logs (h.below hbs) (hE.below hbs))
  have HBS := Lib.hid hbs
  have HWS := Lib.hid hws
  have c0 := cell_of_row ws _ 0 _ _ _ hg1
  clear h hE hbs hws hg1
  go_enter Tryz.func31, Tryz.ntmps31
  go_upto_region 2 with fail
  rw [← HWS.out]
  clear hmk
  go_wp2_with fail
  refine HLO.out.mono ?_
  rintro e w1 ⟨A, n, c, rfl, hr, hb1⟩
  obtain rfl : n = 0 := hr.len.symm
  have HB1 := Lib.hid (HBS.out.trans (hb1.mono HBS.out.size))
  clear hr hb1 c0 HLO
  go_wp2_with fail
  go_loopw [17] (fun v17 wr => v17 = .int .i64 0 ∧ wr = w1) (fun v17 _ => 0)
  case atStart => exact ⟨rfl, rfl⟩
  case round =>
    obtain ⟨rfl, rfl⟩ := hrel
    go_wp2_with fail
    go_ret
    exact ⟨rfl, HB1.out⟩
set_option maxRecDepth 10000 in
set_option maxHeartbeats 4000000 in
theorem nstray_any {w : World} {g m cap : Nat} (h : DiskS w g m cap []) (hE : Env w) :
    Calls Tryz.prog 32 #[.agg #[.pointer (some ⟨g, 0, none⟩)]] w fun e w' => e = .returned (.int .i64 0) ∧ Below w.heap.size w w' := by
  obtain ⟨ws, hws⟩ : ∃ ws, ws = w.alloc (.cells #[.pointer (some ⟨g, 0, none⟩)] 82) := ⟨_, rfl⟩
  have hbs : Below w.heap.size w ws := by rw [hws]; exact (Below.refl _ _).alloc (Nat.le_refl _) _
  have hg1 : ws.heap[w.heap.size]? = some (.cells #[.pointer (some ⟨g, 0, none⟩)] 82 (0, 0)) := by rw [hws]; exact heap_alloc_new w _
  have hgm := h.lt
  have hD := h.below hbs
  have HLO : Hid (∀ w', Below ws.heap.size ws w' → Calls Tryz.prog 62 #[.pointer (some ⟨g, 0, none⟩)] w' (LogsE w' [])) := fun w' hb => nil_logs (hD.below hb) ((hE.below hbs).below hb)
  have HNA : Hid (∀ w', Below ws.heap.size ws w' → Calls Tryz.prog 54 #[.pointer (some ⟨g, 0, none⟩)] w' (Named w' [])) := fun w' hb => names_any (hD.below hb) (by simp)
  have HBS := Lib.hid hbs
  have HWS := Lib.hid hws
  have HG1 := Lib.hid hg1
  have c0 := cell_of_row ws _ 0 _ _ _ hg1
  clear h hE hbs hws hg1 hD
  go_enter Tryz.func32, Tryz.ntmps32
  go_upto_region 1 with fail
  rw [← HWS.out]
  go_cut [3, 4] from 9 to 14 (fun v3 v4 wx => ∃ (A : Option Addr) (c : Nat) (A' : Option Addr) (c' : Nat), v3 = .slice A 0 c ∧ v4 = .slice A' 0 c' ∧ Below ws.heap.size ws wx)
  case first => as_aux_lemma =>
    have HBX := Lib.hid (Below.refl ws.heap.size ws).drew
    go_region_held (fun w' => w'.cell? ⟨w.heap.size, 0, none⟩ = some (.pointer (some ⟨g, 0, none⟩)))
      (exact c0)
      (first
        | (go_at_call 54; refine (HNA.out _ HBX.out).mono ?_; rintro e w1 ⟨A, n, c, ns, rfl, hs1, hp1, -, hbk1, hb1⟩; have hbx1 := HBX.out.trans (hb1.mono HBX.out.size); have HN : Hid (n = 0) := by have h1 := hp1.length_eq; have h2 := hs1.len; simp only [List.length_nil] at h1; exact h2.symm.trans h1
           have c0 := cell_later hbx1 (cell_of_row ws _ 0 _ _ _ HG1.out); have HBX := Lib.hid hbx1; clear hs1 hp1 hbk1 hb1 hbx1)
        | (go_at_call 62; refine (HLO.out _ HBX.out).mono ?_; rintro e w2 ⟨A', n', c', rfl, hr2, hb2⟩; have hbx2 := HBX.out.trans (hb2.mono HBX.out.size); have HN' : Hid (n' = 0) := hr2.len.symm
           have c0 := cell_later hbx2 (cell_of_row ws _ 0 _ _ _ HG1.out); have HBX := Lib.hid hbx2; clear hr2 hb2 hbx2))
    all_goals
      go_wp2_with fail
      go_meet
      exact ⟨A, c, A', c', by rw [HN.out], by rw [HN'.out], HBX.out⟩
  case rest =>
    obtain ⟨A, c, A', c', rfl, rfl, hb1⟩ := hcut
    have HB1 := Lib.hid (HBS.out.trans (hb1.mono HBS.out.size))
    have hwl : w.heap.size < ws.heap.size := (Array.getElem?_eq_some_iff.1 HG1.out).1
    clear hb1 c0
    go_wp2_with fail
    go_loopw [15] (fun v15 wr => ∃ (i : Nat), i ≤ 16 ∧ v15 = .int .i64 (i : Int) ∧ Below wc.heap.size wc wr) (fun v15 _ => 16 - (intOf v15).toNat)
    case atStart => exact ⟨0, Nat.zero_le _, rfl, Below.refl _ _⟩
    case round =>
      obtain ⟨i, hi, rfl, hoi⟩ := hrel
      by_cases hlt : i < 16
      · obtain ⟨wk, hwk⟩ : ∃ wk, wk = wr.alloc (.cells #[.string ⟨#[105, 100, 120]⟩, .string ⟨#[102, 108, 103]⟩] 9) := ⟨_, rfl⟩
        have hbk : Below wr.heap.size wr wk := by rw [hwk]; exact (Below.refl _ _).alloc (Nat.le_refl _) _
        have hgk : wk.heap[wr.heap.size]? = some (.cells #[.string ⟨#[105, 100, 120]⟩, .string ⟨#[102, 108, 103]⟩] 9 (0, 0)) := by rw [hwk]; exact heap_alloc_new wr _
        have HOI := Lib.hid (hoi.trans (hbk.mono hoi.size))
        have HWK := Lib.hid hwk
        have HGK := Lib.hid hgk
        clear hoi hwk hbk hgk
        go_upto_region 6 with fail
        rw [← HWK.out]
        obtain ⟨kb, hkb⟩ : ∃ kb, wr.heap.size = kb := ⟨_, rfl⟩
        rw [hkb] at HGK ⊢
        clear hkb
        go_wp2_with fail
        rw [show decide ((i : Int) < 16) = true from decide_eq_true (by omega)]
        go_loopw [20] (fun v20 wq => ∃ (j : Nat), j ≤ 2 ∧ v20 = .int .i64 (j : Int) ∧ wq = wk) (fun v20 _ => 2 - (intOf v20).toNat)
        case atStart => exact ⟨0, Nat.zero_le _, rfl, rfl⟩
        case round =>
          obtain ⟨j, hj, rfl, hwq⟩ := hrel
          rw [hwq]
          clear hwq
          by_cases hlt2 : j < 2
          · obtain ⟨kd, hkd, hksz, hklit⟩ := kind_at j hlt2
            have hcell : wk.cell? ⟨kb, j, none⟩ = some (.string kd) := by
              rw [cell_of_row wk _ j _ _ _ HGK.out]
              match j, hlt2 with
              | 0, _ => simp only [kindsS, List.getElem?_cons_zero, Option.some.injEq] at hkd; rw [← hkd]; rfl
              | 1, _ => simp only [kindsS, List.getElem?_cons_succ, List.getElem?_cons_zero, Option.some.injEq] at hkd; rw [← hkd]; rfl
            have hIC := icontains_any A' 0 c' i [] wk (RowR.nil _ _ _) (by omega)
            rw [show decide (i ∈ ([] : List Nat)) = false from decide_eq_false (by simp)] at hIC
            have HIC := Lib.hid hIC
            have HSC := Lib.hid (scontains_any A 0 c (pageN j i) [] wk ⟨rfl, fun h0 => absurd h0 (by omega)⟩ (by omega))
            have HF : Hid (∀ w, Calls Tryz.prog 75 #[.string kd, .int .i64 (i : Int)] w fun e w' => e = .returned (.string (pageN j i)) ∧ w' = w) := fun w => cfile_any kd (pageN j i) hksz i hlt (hklit i hlt) w
            clear hkd hklit hIC
            go_wp2_with fail
            refine HIC.out.mono ?_
            rintro e w2 ⟨rfl, hw2⟩
            rw [hw2]
            clear hw2 w2
            go_wp2_with fail
            refine (HF.out wk).mono ?_
            rintro e w2 ⟨rfl, hw2⟩
            rw [hw2]
            clear hw2 w2
            go_wp2_with fail
            refine HSC.out.mono ?_
            rintro e w2 ⟨rfl, hw2⟩
            rw [hw2]
            clear hw2 w2
            rw [show memS (pageN j i) [] = false from rfl]
            go_wp2_with fail
            exact ⟨⟨j + 1, hlt2, by first | rfl | (congr 1), by first | rfl | trivial⟩, by simp [intOf]; omega⟩
          · obtain rfl : j = 2 := by omega
            go_wp2_with fail
            exact ⟨⟨i + 1, hlt, by first | rfl | (congr 1), HOI.out⟩, by simp [intOf]; omega⟩
      · obtain rfl : i = 16 := by omega
        have HOI := Lib.hid hoi
        clear hoi
        go_wp2_with fail
        go_ret
        exact ⟨rfl, HB1.out.trans (HOI.out.mono HB1.out.size)⟩
set_option maxRecDepth 8000 in
set_option maxHeartbeats 1000000 in
theorem ninbox_any {w : World} {g m cap : Nat} (h : DiskS w g m cap []) (hE : Env w) (hg9 : 9 ≤ g ∧ 9 ≤ m) (hcap : 1000 ≤ cap) :
    Calls Tryz.prog 80 #[.agg #[.pointer (some ⟨g, 0, none⟩)]] w (BeginE w g m cap [] 0 (BoxSt.first inboxS)) := by
  have hfl := first_small named_inbox
  obtain ⟨ws, hws⟩ : ∃ ws, ws = w.alloc (.cells #[.pointer (some ⟨g, 0, none⟩)] 82) := ⟨_, rfl⟩
  have hbs : Below w.heap.size w ws := by rw [hws]; exact (Below.refl _ _).alloc (Nat.le_refl _) _
  have hg1 : ws.heap[w.heap.size]? = some (.cells #[.pointer (some ⟨g, 0, none⟩)] 82 (0, 0)) := by rw [hws]; exact heap_alloc_new w _
  have hD := h.below hbs
  have hE' := hE.below hbs
  have HLO := Lib.hid (nil_logs hD hE')
  have HB : Hid (∀ w', Below ws.heap.size ws w' → Calls Tryz.prog 65 #[.pointer (some ⟨g, 0, none⟩), .int .i64 0, .string ⟨#[73, 78, 66, 79, 88]⟩] w' (BeginE w' g m cap [] 0 (BoxSt.first inboxS))) :=
    fun w' hb => begin_any (hD.below hb) 0 (by omega) inboxS named_inbox rfl rfl (hE'.below hb) hg9 (by show 0 + firstLen inboxS ≤ cap; omega)
  have HBS := Lib.hid hbs
  have HWS := Lib.hid hws
  have HG1 := Lib.hid hg1
  have c0 := cell_of_row ws _ 0 _ _ _ hg1
  clear h hE hbs hws hg1 hD hE' hfl
  go_enter Tryz.func80, Tryz.ntmps80
  go_upto_region 1 with fail
  rw [← HWS.out]
  go_wp2_with fail
  refine HLO.out.mono ?_
  rintro e w1 ⟨A, n, c, rfl, hr, hb1⟩
  obtain rfl : n = 0 := hr.len.symm
  have hIC := icontains_any A 0 c 0 [] w1 (RowR.nil _ _ _) (by omega)
  rw [show decide (0 ∈ ([] : List Nat)) = false from decide_eq_false (by simp)] at hIC
  have HIC : Hid (Calls Tryz.prog 63 #[.slice A 0 c, .int .i64 0] w1 fun e w' => e = .returned (.bool false) ∧ w' = w1) := hIC
  have hbox := (hb1.block _ (Array.getElem?_eq_some_iff.1 HG1.out).1).trans HG1.out
  have c0 := cell_of_row w1 _ 0 _ _ _ hbox
  have HB1 := Lib.hid hb1
  clear hr hb1 HLO hIC hbox
  go_wp2_with fail
  go_loopw [4] (fun v4 wr => v4 = .int .i64 0 ∧ wr = w1) (fun v4 _ => 0)
  case atStart => exact ⟨rfl, rfl⟩
  case round =>
    obtain ⟨rfl, rfl⟩ := hrel
    go_wp2_with fail
    refine HIC.out.mono ?_
    rintro e w2 ⟨rfl, hw2⟩
    rw [hw2]
    clear hw2 w2
    go_wp2_with fail
    refine (HB.out _ HB1.out).mono ?_
    rintro e w2 ⟨rfl, F', hd, hl, ho⟩
    have HR : Hid (BeginE w g m cap [] 0 (BoxSt.first inboxS) (.returned (.int .i64 0)) w2) := ⟨rfl, F', hd, hl, (Only.of_below (HBS.out.trans (HB1.out.mono HBS.out.size)) (DB g m)).trans ho (fun _ _ h => h)⟩
    clear hd hl ho
    go_wp2_with fail
    go_ret
    exact HR.out
set_option maxRecDepth 8000 in
set_option maxHeartbeats 2000000 in
theorem nboxes_any {w : World} {g m cap : Nat} (h : DiskS w g m cap []) (hE : Env w) (hg9 : 9 ≤ g ∧ 9 ≤ m) (hcap : 1000 ≤ cap) :
    Calls Tryz.prog 33 #[.agg #[.pointer (some ⟨g, 0, none⟩)]] w (BeginE w g m cap [] 0 (BoxSt.first inboxS)) := by
  obtain ⟨ws, hws⟩ : ∃ ws, ws = w.alloc (.cells #[.pointer (some ⟨g, 0, none⟩)] 82) := ⟨_, rfl⟩
  have hbs : Below w.heap.size w ws := by rw [hws]; exact (Below.refl _ _).alloc (Nat.le_refl _) _
  have hg1 : ws.heap[w.heap.size]? = some (.cells #[.pointer (some ⟨g, 0, none⟩)] 82 (0, 0)) := by rw [hws]; exact heap_alloc_new w _
  have hD := h.below hbs
  have hE' := hE.below hbs
  have HLO : Hid (∀ w', Below ws.heap.size ws w' → Calls Tryz.prog 62 #[.pointer (some ⟨g, 0, none⟩)] w' (LogsE w' [])) := fun w' hb => nil_logs (hD.below hb) (hE'.below hb)
  have HIN : Hid (∀ w', Below ws.heap.size ws w' → Calls Tryz.prog 80 #[.agg #[.pointer (some ⟨g, 0, none⟩)]] w' (BeginE w' g m cap [] 0 (BoxSt.first inboxS))) := fun w' hb => ninbox_any (hD.below hb) (hE'.below hb) hg9 hcap
  have HBS := Lib.hid hbs
  have HWS := Lib.hid hws
  have HG1 := Lib.hid hg1
  have c0 := cell_of_row ws _ 0 _ _ _ hg1
  clear h hE hbs hws hg1 hD hE'
  go_enter Tryz.func33, Tryz.ntmps33
  go_upto_region 1 with fail
  rw [← HWS.out]
  go_wp2_with fail
  refine (HLO.out ws (Below.refl _ _)).mono ?_
  rintro e w1 ⟨A, n, c, rfl, hr, hb1⟩
  obtain rfl : n = 0 := hr.len.symm
  have hbox := (hb1.block _ (Array.getElem?_eq_some_iff.1 HG1.out).1).trans HG1.out
  have HBX1 := Lib.hid hbox
  have HB1 := Lib.hid hb1
  clear hr hb1 hbox c0
  go_wp2_with fail
  go_loopw [17] (fun v17 wr => v17 = .int .i64 0 ∧ wr = w1) (fun v17 _ => 0)
  case atStart => exact ⟨rfl, rfl⟩
  case round =>
    obtain ⟨rfl, rfl⟩ := hrel
    have c0 := cell_of_row wr _ 0 _ _ _ HBX1.out
    go_wp2_with fail
    refine (HLO.out _ HB1.out).mono ?_
    rintro e w2 ⟨A2, n2, c2, rfl, hr2, hb2⟩
    obtain rfl : n2 = 0 := hr2.len.symm
    have HB2 := Lib.hid (HB1.out.trans (hb2.mono HB1.out.size))
    have hbox := (hb2.block _ (Array.getElem?_eq_some_iff.1 HBX1.out).1).trans HBX1.out
    have HBX2 := Lib.hid hbox
    clear hr2 hb2 hbox c0
    go_wp2_with fail
    go_loopw [7, 36] (fun v7 v36 wr => v7 = .slice none 0 0 ∧ v36 = .int .i64 0 ∧ wr = w2) (fun _ v36 _ => 0)
    case atStart => exact ⟨rfl, rfl, rfl⟩
    case round =>
      obtain ⟨rfl, rfl, rfl⟩ := hrel
      have HSC : Hid (Calls Tryz.prog 78 #[.slice none 0 0, .string ⟨#[73, 78, 66, 79, 88]⟩] wr fun e w' => e = .returned (.bool false) ∧ w' = wr) := scontains_any none 0 0 inboxS [] wr ⟨rfl, fun h0 => absurd h0 (by omega)⟩ (by omega)
      have c0 := cell_of_row wr _ 0 _ _ _ HBX2.out
      go_wp2_with fail
      refine HSC.out.mono ?_
      rintro e w3 ⟨rfl, hw3⟩
      rw [hw3]
      clear hw3 w3
      go_wp2_with fail
      refine (HIN.out _ HB2.out).mono ?_
      rintro e w3 ⟨rfl, F', hd, hl, ho⟩
      have HR : Hid (BeginE w g m cap [] 0 (BoxSt.first inboxS) (.returned (.int .i64 0)) w3) := ⟨rfl, F', hd, hl, (Only.of_below (HBS.out.trans (HB2.out.mono HBS.out.size)) (DB g m)).trans ho (fun _ _ h => h)⟩
      clear hd hl ho
      go_wp2_with fail
      go_ret
      exact HR.out
/-- the steps of Check of an empty disk -/
def NewStep (g m cap : Nat) (i : Nat) (w : World) : Prop :=
  Env w ∧ match i with
  | 0 => DiskS w g m cap []
  | 1 => DiskS w g m cap []
  | 2 => DiskS w g m cap []
  | 3 => ∃ F', DiskS w g m cap F' ∧ Laid ([] : DiskF) F' 0 (BoxSt.first inboxS)
  | _ => ∃ F', DiskS w g m cap F' ∧ Rest F' [(0, BoxSt.first inboxS)] ∧ F'.total ≤ 2000
/-- what Check makes of an empty disk -/
def MadeE2 (w : World) (g m cap : Nat) (e : Ending) (w' : World) : Prop :=
  e = .returned (.int .i64 0) ∧ ∃ F', DiskS w' g m cap F' ∧ Rest F' [(0, BoxSt.first inboxS)] ∧ F'.total ≤ 2000 ∧ Only (DB g m) w w'
theorem check_new {w : World} {g m cap : Nat} (h : DiskS w g m cap []) (hE : Env w) (hg9 : 9 ≤ g ∧ 9 ≤ m) (hcap : 1000 ≤ cap) :
    Calls Tryz.prog 11 #[.pointer (some ⟨g, 0, none⟩)] w (MadeE2 w g m cap) := by
  have hdb : ∀ q, DB g m q → 9 ≤ q := fun q e => by rcases e with e | e <;> omega
  have hnone : ∀ s, AL.get ([] : DiskF) s = none := fun s => rfl
  have hfl := first_small named_inbox
  have hw := first_whole named_inbox
  have hnm := first_name inboxS
  refine (check_of (NewStep g m cap) h rfl (fun w' hb => ⟨hE.below hb, h.below hb⟩) ?_).mono ?_
  · intro i hi w1 hP
    obtain ⟨hE1, hP⟩ := hP
    obtain rfl | rfl | rfl | rfl : i = 0 ∨ i = 1 ∨ i = 2 ∨ i = 3 := by omega
    · have hd : DiskS w1 g m cap [] := hP
      refine (nsame_any hd hE1).mono ?_
      rintro e w2 ⟨rfl, hb2⟩
      exact ⟨rfl, ⟨hE1.below hb2, hd.below hb2⟩, Only.of_below hb2 _⟩
    · have hd : DiskS w1 g m cap [] := hP
      refine (nstray_any hd hE1).mono ?_
      rintro e w2 ⟨rfl, hb2⟩
      exact ⟨rfl, ⟨hE1.below hb2, hd.below hb2⟩, Only.of_below hb2 _⟩
    · have hd : DiskS w1 g m cap [] := hP
      refine (nboxes_any hd hE1 hg9 hcap).mono ?_
      rintro e w2 ⟨rfl, F', hd', hl, ho⟩
      exact ⟨rfl, ⟨hE1.only ho hdb, F', hd', hl⟩, ho⟩
    · obtain ⟨F1, hd1, hl1⟩ := hP
      have hrest := Rest.first hnone hl1 hw hnm (Upd.put F1 treeN _)
      have hN1 := hl1.names (names_in 0 (by omega)) (fun s f hf => by cases hf)
      have hgood := hrest.untree (Upd.put F1 treeN _) hN1.mono
      have htot := hl1.total (by exact List.nodup_nil) hd1.nodup (by omega) rfl rfl rfl
      have hbt : AL.get F1 (badN treeN) = none := by
        cases hg : AL.get F1 (badN treeN) with
        | none => rfl
        | some f => exact absurd (hN1 _ _ hg).1 (bad_nin _)
      have htr : AL.get F1 treeN = none := by
        have ha := names_apart 0 (by omega)
        rw [hl1 treeN, if_neg (fun e => ha.2.2.1 e.symm), if_neg (fun e => ha.2.2.2.2.1 e.symm), if_neg (fun e => ha.1 e.symm)]
        rfl
      have ht1 : F1.total ≤ 900 := by
        unfold firstLen at hfl
        have e1 : (logB (BoxSt.first inboxS).ns) = logB [firstN inboxS] := rfl
        rw [e1] at htot
        have e2 : AL.total ([] : DiskF) = 0 := rfl
        rw [e2] at htot
        omega
      refine (ctree_any hd1 hgood hbt hE1 hg9 (by rw [inbox_tree]; omega)).mono ?_
      rintro e w2 ⟨rfl, F2, hd2, ht2, ho2⟩
      refine ⟨rfl, ⟨hE1.only ho2 hdb, F2, hd2, Rest.first hnone hl1 hw hnm (ht2.new htr), ?_⟩, ho2⟩
      have := ht2.tot
      rw [inbox_tree] at this
      omega
  · rintro e w' ⟨rfl, ⟨-, F5, hd, h1, h2⟩, ho⟩
    exact ⟨rfl, F5, hd, h1, h2, ho⟩
end Go.Proofs.YtlhaempecidohaaGreatDoor
namespace Go.Proofs.YtlhaempecidohaaGreatDoor
open Go.RowKit
def srvC (g gs : Nat) : Array Value := #[.pointer (some ⟨g, 0, none⟩), .pointer (some ⟨gs, 0, none⟩), .int .i64 1000000000, .pointer none, .pointer none, .pointer none, .pointer none, .pointer none, .pointer none, .pointer none, .pointer none]
def ServedE (w : World) (g m : Nat) (e : Ending) (w' : World) : Prop :=
  ∃ S gs, e = .returned (.tuple #[.pointer (some ⟨S, 0, none⟩), .int .i64 0]) ∧ w'.heap[S]? = some (.cells (srvC g gs) 183 (0, 0)) ∧ w.heap.size ≤ S ∧ Only (DB g m) w w'
set_option maxRecDepth 8000 in
set_option maxHeartbeats 1000000 in
theorem svopen_any {w : World} {g m cap : Nat} (h : DiskS w g m cap []) (hE : Env w) (hg9 : 9 ≤ g ∧ 9 ≤ m) (hcap : 1000 ≤ cap) :
    Calls Tryz.prog 43 #[.pointer (some ⟨g, 0, none⟩), .int .i64 1000000000] w (ServedE w g m) := by
  have HPR := Lib.hid (print_any 1000000000 (by omega) (by omega) w hE)
  have HCK : Hid (∀ w', Below w.heap.size w w' → Calls Tryz.prog 11 #[.pointer (some ⟨g, 0, none⟩)] w' (MadeE2 w' g m cap)) := fun w' hb => check_new (h.below hb) (hE.below hb) hg9 hcap
  have HE := Lib.hid hE
  have hgm := h.lt
  have HG9 := Lib.hid hg9
  clear h hE hg9
  go_enter Tryz.func43, Tryz.ntmps43
  go_wp2_with fail
  refine HPR.out.mono ?_
  rintro e w1 ⟨s, rfl, hs, hb1⟩
  rw [show dated 1000000000 = true from rfl] at hs
  have hse := str_empty (s := s) hs
  have HB1 := Lib.hid hb1
  clear hs hb1 HPR
  go_wp2_with fail
  refine (HCK.out w1 HB1.out).mono ?_
  rintro e w2 ⟨rfl, F2, hd2, hr2, ht2, ho2⟩
  have hE2 : Env w2 := (HE.out.below HB1.out).only ho2 (fun q e => by have := HG9.out; rcases e with e | e <;> omega)
  have HOP := Lib.hid (open_any hd2 (.inr hr2) hE2 HG9.out)
  have HO2 := Lib.hid ((Only.of_below HB1.out (DB g m)).trans ho2 (fun _ _ h => h))
  clear hd2 hr2 ht2 ho2 hE2
  go_wp2_with fail
  refine HOP.out.mono ?_
  rintro e w3 ⟨gs, mm, F3, rfl, hst, -, hgs, hmm, ho3⟩
  have HST := Lib.hid hst
  have HO3 := Lib.hid (HO2.out.trans ho3 (fun _ _ h => h))
  clear hst ho3 hgs hmm
  go_wp2_with fail
  go_ret2
  refine ⟨w3.heap.size, gs, rfl, heap_alloc_new w3 _, HO3.out.size, HO3.out.trans (Only.of_below ((Below.refl _ _).alloc (Nat.le_refl _) _) (DB g m)) (fun _ _ h => h)⟩
set_option maxRecDepth 8000 in
set_option maxHeartbeats 400000 in
theorem sindex0_any (S : Nat) (w : World) (hc : w.cell? ⟨S, 3, none⟩ = some (.pointer none)) :
    Calls Tryz.prog 165 #[.slice (some ⟨S, 3, none⟩) 4 4, .pointer none] w fun e w' => e = .returned (.int .i64 0) ∧ w' = w := by
  have HC := Lib.hid hc
  clear hc
  go_enter Tryz.func165, Tryz.ntmps165
  go_wp2_with fail
  go_loopw [8] (fun v8 wr => v8 = .int .i64 0 ∧ wr = w) (fun v8 _ => 0)
  case atStart => exact ⟨rfl, rfl⟩
  case round =>
    obtain ⟨rfl, rfl⟩ := hrel
    have c0 := HC.out
    go_wp2_with fail
    go_ret
    exact ⟨rfl, rfl⟩
set_option maxRecDepth 8000 in
set_option maxHeartbeats 400000 in
theorem snew_any (w : World) : Calls Tryz.prog 166 #[] w fun e w' => ∃ k, e = .returned (.pointer (some ⟨k, 0, none⟩)) ∧ Below w.heap.size w w' := by
  go_enter Tryz.func166, Tryz.ntmps166
  go_wp2_with fail
  go_ret
  exact ⟨w.heap.size, rfl, (Below.refl _ _).alloc (Nat.le_refl _) _⟩
def helloB : List Nat := [42, 32, 79, 75, 32, 99, 117, 98, 98, 121, 13, 10]
set_option maxRecDepth 8000 in
set_option maxHeartbeats 400000 in
theorem hello_any (k : Nat) (w : World) : Calls Tryz.prog 167 #[.pointer (some ⟨k, 0, none⟩)] w fun e w' => ∃ A c, e = .returned (.slice A 12 c) ∧ RB w' A 12 helloB ∧ 12 ≤ c ∧ Below w.heap.size w w' ∧ (∀ q, blk A = some q → w.heap.size ≤ q) := by
  have kc := fun (w : World) (C : Array Value) (n c g : Nat) (hg : g = w.heap.size) => Joins.run_convert_bytes_const_at (P := Tryz.prog) w 23 5 C n c g hg Tryz.underlying23 Tryz.underlying5
  go_enter Tryz.func167, Tryz.ntmps167
  go_wp2_with fail
  go_ret
  refine ⟨some ⟨w.heap.size, 0, none⟩, 12, rfl, RB.new w _ 5 (12, 13) helloB rfl (by decide), Nat.le_refl _, (Below.refl _ _).alloc (Nat.le_refl _) _, fun q hq => by cases hq; exact Nat.le_refl _⟩
end Go.Proofs.YtlhaempecidohaaGreatDoor
namespace Go.Proofs.YtlhaempecidohaaGreatDoor
open Go.RowKit
def srvD (g gs : Nat) (a b : Value) : Array Value := #[.pointer (some ⟨g, 0, none⟩), .pointer (some ⟨gs, 0, none⟩), .int .i64 1000000000, a, .pointer none, .pointer none, .pointer none, b, .pointer none, .pointer none, .pointer none]
def ConnE (w : World) (S : Nat) (e : Ending) (w' : World) : Prop :=
  ∃ A c, e = .returned (.tuple #[.int .i64 0, .slice A 12 c, .int .i64 0]) ∧ RB w' A 12 helloB ∧ 12 ≤ c ∧ (∀ q, blk A = some q → w.heap.size ≤ q) ∧ Only (fun q => q = S) w w'
/-- a session and its pages stand in the first place -/
def Seated (S g gs : Nat) (w wx : World) : Prop := ∃ k1 k2 : Nat, wx.heap[S]? = some (.cells (srvD g gs (.pointer (some ⟨k1, 0, none⟩)) (.pointer (some ⟨k2, 0, none⟩))) 183 (0, 0)) ∧ Only (fun q => q = S) w wx
abbrev pagesB : Obj := .cells #[.slice none 0 0, .slice none 0 0, .int .i64 0, .bool false, .slice none 0 0] 255
section
variable {S g gs k x : Nat} {w w5 : World} (h : w.heap[S]? = some (.cells (srvC g gs) 183 (0, 0))) (hb : Below w.heap.size w w5)
include h hb
theorem seatA : Seated S g gs w (((w5.alloc pagesB).setCell ⟨S, 3, none⟩ (.pointer (some ⟨k, 0, none⟩))).setCell ⟨S, 7, none⟩ (.pointer (some ⟨x, 0, none⟩))) := by
  have hS : S < w.heap.size := (Array.getElem?_eq_some_iff.1 h).1
  have hb' := hb.alloc hb.size pagesB
  have h1 := Joins.block_setCell (i := 3) ((hb'.block _ hS).trans h) (.pointer (some ⟨k, 0, none⟩))
  have h2 := Joins.block_setCell (i := 7) h1 (.pointer (some ⟨x, 0, none⟩))
  exact ⟨k, x, h2, ((Only.of_below hb' (fun q => q = S)).setCell (p := ⟨S, 3, none⟩) (.inl rfl) _).setCell (p := ⟨S, 7, none⟩) (.inl rfl) _⟩
theorem seatB : Seated S g gs w (((w5.setCell ⟨S, 3, none⟩ (.pointer (some ⟨k, 0, none⟩))).alloc pagesB).setCell ⟨S, 7, none⟩ (.pointer (some ⟨x, 0, none⟩))) := by
  have hS : S < w.heap.size := (Array.getElem?_eq_some_iff.1 h).1
  have h1 := Joins.block_setCell (i := 3) ((hb.block _ hS).trans h) (.pointer (some ⟨k, 0, none⟩))
  have h1' := (Below.heap_alloc _ pagesB _ (Array.getElem?_eq_some_iff.1 h1).1).trans h1
  have h2 := Joins.block_setCell (i := 7) h1' (.pointer (some ⟨x, 0, none⟩))
  exact ⟨k, x, h2, (((Only.of_below hb (fun q => q = S)).setCell (p := ⟨S, 3, none⟩) (.inl rfl) _).alloc _).setCell (p := ⟨S, 7, none⟩) (.inl rfl) _⟩
theorem seatC : Seated S g gs w ((w5.setCell ⟨S, 3, none⟩ (.pointer (some ⟨k, 0, none⟩))).setCell ⟨S, 7, none⟩ (.pointer (some ⟨x, 0, none⟩))) := by
  have hS : S < w.heap.size := (Array.getElem?_eq_some_iff.1 h).1
  have h1 := Joins.block_setCell (i := 3) ((hb.block _ hS).trans h) (.pointer (some ⟨k, 0, none⟩))
  have h2 := Joins.block_setCell (i := 7) h1 (.pointer (some ⟨x, 0, none⟩))
  exact ⟨k, x, h2, ((Only.of_below hb (fun q => q = S)).setCell (p := ⟨S, 3, none⟩) (.inl rfl) _).setCell (p := ⟨S, 7, none⟩) (.inl rfl) _⟩
end
set_option maxRecDepth 8000 in
set_option maxHeartbeats 4000000 in
theorem sconnect_any {S g gs : Nat} {w : World} (h : w.heap[S]? = some (.cells (srvC g gs) 183 (0, 0))) :
    Calls Tryz.prog 105 #[.pointer (some ⟨S, 0, none⟩)] w (ConnE w S) := by
  have hS : S < w.heap.size := (Array.getElem?_eq_some_iff.1 h).1
  have HC : Hid (∀ w', Below w.heap.size w w' → ∀ j < 11, w'.cell? ⟨S, j, none⟩ = (srvC g gs)[j]?) := fun w' hb j hj => Joins.cell_of_block ((hb.block _ hS).trans h) j
  have HU : Hid (∀ w', Below w.heap.size w w' → ∀ j, w'.frozen? ⟨S, j, none⟩ = false) := fun w' hb j => Joins.unfrozen_of_block ((hb.block _ hS).trans h) j
  have HV : Hid (∀ w' k, Below w.heap.size w w' → ((w'.setCell ⟨S, 3, none⟩ (.pointer (some ⟨k, 0, none⟩))).alloc (.cells #[.slice none 0 0, .slice none 0 0, .int .i64 0, .bool false, .slice none 0 0] 255)).heap[S]? = some (.cells (srvD g gs (.pointer (some ⟨k, 0, none⟩)) (.pointer none)) 183 (0, 0))) := fun w' k hb => by
    have h1 := Joins.block_setCell (i := 3) ((hb.block _ hS).trans h) (.pointer (some ⟨k, 0, none⟩))
    rw [Below.heap_alloc _ _ _ (Array.getElem?_eq_some_iff.1 h1).1]
    exact h1
  have c3 : w.cell? ⟨S, 3, none⟩ = some (.pointer none) := HC.out w (Below.refl _ _) 3 (by omega)
  have c7 : w.cell? ⟨S, 7, none⟩ = some (.pointer none) := HC.out w (Below.refl _ _) 7 (by omega)
  have HI := Lib.hid (sindex0_any S w c3)
  have H := Lib.hid h
  clear h
  go_enter Tryz.func105, Tryz.ntmps105
  go_wp2_with fail
  refine HI.out.mono ?_
  rintro e w2 ⟨rfl, hw2⟩
  rw [hw2]
  clear hw2 w2
  go_upto_region 6 with fail
  go_cut [5] from 15 to 27 (fun v5 wx => v5 = .int .i64 0 ∧ Seated S g gs w wx)
  case first =>
    go_region_law (go_simp; go_at_call 166; refine (snew_any _).mono ?_; rintro e w5 ⟨k, rfl, hb5⟩; have hbx : Below w.heap.size w w5 := Below.trans (by first | exact Below.refl _ _ | exact (Below.refl _ _).drew | exact ((Below.refl _ _).alloc (Nat.le_refl _) _) | exact ((Below.refl _ _).alloc (Nat.le_refl _) _).drew) (hb5.mono (by simp)); have HB5 := Lib.hid hbx; have d3 := HC.out w5 hbx 3 (by omega); have d7 := HC.out w5 hbx 7 (by omega); have u3 := HU.out w5 hbx 3; have u7 := HU.out w5 hbx 7; have hby := hbx.alloc hbx.size (.cells #[.slice none 0 0, .slice none 0 0, .int .i64 0, .bool false, .slice none 0 0] 255); have d3' := HC.out _ hby 3 (by omega); have d7' := HC.out _ hby 7 (by omega); have u3' := HU.out _ hby 3; have u7' := HU.out _ hby 7; have x7 := Joins.cell_of_block (HV.out w5 k hbx) 7; have y7 := Joins.unfrozen_of_block (HV.out w5 k hbx) 7; simp only [srvC, srvD] at d3 d7 d3' d7' x7; clear hb5 hbx hby)
    all_goals
      go_wp2_with fail
      go_meet
      refine ⟨rfl, ?_⟩
      first
        | (with_reducible exact seatA H.out HB5.out)
        | (with_reducible exact seatB H.out HB5.out)
        | (with_reducible exact seatC H.out HB5.out)
  case rest =>
    obtain ⟨rfl, k1, k2, hb, ho⟩ := hcut
    have c3 : wc.cell? ⟨S, 3, none⟩ = some (.pointer (some ⟨k1, 0, none⟩)) := Joins.cell_of_block hb 3
    have HO := Lib.hid ho
    have HH := Lib.hid (hello_any k1 wc)
    clear ho
    go_wp2_with fail
    refine HH.out.mono ?_
    rintro e w5 ⟨A, c, rfl, hrb, hc, hb5, hbk⟩
    have HRB := Lib.hid hrb
    have HBK := Lib.hid hbk
    have HO5 := Lib.hid (HO.out.trans (Only.of_below hb5 (fun q => q = S)) (fun _ _ h => h))
    clear hrb hbk hb5
    go_wp2_with fail
    go_ret3
    exact ⟨A, c, rfl, HRB.out, hc, fun q hq => Nat.le_trans HO.out.size (HBK.out q hq), HO5.out⟩
end Go.Proofs.YtlhaempecidohaaGreatDoor
namespace Go.Proofs.YtlhaempecidohaaGreatDoor
open Go.RowKit
def wldC (g S : Nat) (v : Value) : Array Value := #[.pointer (some ⟨g, 0, none⟩), .pointer (some ⟨S, 0, none⟩), v, .slice none 0 0, .slice none 0 0, .slice none 0 0]
def WorldE (w : World) (e : Ending) (w' : World) : Prop :=
  ∃ W g S gs, e = .returned (.tuple #[.pointer (some ⟨W, 0, none⟩), .int .i64 0]) ∧ w'.heap[W]? = some (.cells (wldC g S (.slice none 0 0)) 101 (0, 0)) ∧ w'.heap[S]? = some (.cells (srvC g gs) 183 (0, 0)) ∧ w.heap.size ≤ W ∧ w.heap.size ≤ S ∧ W ≠ S ∧ Below w.heap.size w w'
set_option maxRecDepth 8000 in
set_option maxHeartbeats 1000000 in
theorem wnew_any {w : World} (hE : Env w) (h9 : 9 ≤ w.heap.size) : Calls Tryz.prog 13 #[.int .i64 1000] w (WorldE w) := by
  have HN := Lib.hid (new_any 1000 (by omega) w)
  have HE := Lib.hid hE
  clear hE
  go_enter Tryz.func13, Tryz.ntmps13
  go_wp2_with fail
  refine HN.out.mono ?_
  rintro e w1 ⟨g, m, rfl, hd, hg, hm, hb1⟩
  have HO := Lib.hid (svopen_any hd (HE.out.below hb1) ⟨Nat.le_trans h9 hg, Nat.le_trans h9 hm⟩ (by omega))
  have HB1 := Lib.hid hb1
  clear hd hb1
  go_wp2_with fail
  refine HO.out.mono ?_
  rintro e w2 ⟨S, gs, rfl, hs, hz, ho2⟩
  have HS := Lib.hid hs
  have HO2 := Lib.hid ho2
  clear hs ho2
  go_wp2_with fail
  go_ret2
  have hz1 := HB1.out.size
  have hz2 := HO2.out.size
  have hSl := (Array.getElem?_eq_some_iff.1 HS.out).1
  refine ⟨w2.heap.size, g, S, gs, rfl, heap_alloc_new w2 _, ?_, by omega, by omega, by omega, ?_⟩
  · rw [Below.heap_alloc _ _ _ hSl]; exact HS.out
  · have ho := (Only.of_below HB1.out (DB g m)).trans HO2.out (fun _ _ h => h)
    exact (ho.below (Nat.le_refl _) (fun q hq e => by rcases e with e | e <;> omega)).alloc (by omega) _
def Greeted (w : World) (W S g : Nat) (e : Ending) (w' : World) : Prop :=
  e = .returned (.int .i64 0) ∧ ∃ A c, w'.heap[W]? = some (.cells (wldC g S (.slice A 12 c)) 101 (0, 0)) ∧ RB w' A 12 helloB ∧ 12 ≤ c ∧ Only (fun q => q = S ∨ q = W) w w'
set_option maxRecDepth 8000 in
set_option maxHeartbeats 1000000 in
theorem wconnect_any {w : World} {W S g gs : Nat} {v : Value} (hW : w.heap[W]? = some (.cells (wldC g S v) 101 (0, 0))) (hS : w.heap[S]? = some (.cells (srvC g gs) 183 (0, 0))) (hne : W ≠ S) :
    Calls Tryz.prog 44 #[.pointer (some ⟨W, 0, none⟩)] w (Greeted w W S g) := by
  have HC := Lib.hid (sconnect_any hS)
  have HW := Lib.hid hW
  have c1 : w.cell? ⟨W, 1, none⟩ = some (.pointer (some ⟨S, 0, none⟩)) := Joins.cell_of_block hW 1
  have hWl : W < w.heap.size := (Array.getElem?_eq_some_iff.1 hW).1
  clear hW hS
  go_enter Tryz.func44, Tryz.ntmps44
  go_wp2_with fail
  refine HC.out.mono ?_
  rintro e w1 ⟨A, c, rfl, hrb, hc, hbk, ho⟩
  have hw1 := ho.heap HW.out hne
  have c2 : w1.cell? ⟨W, 2, none⟩ = some v := Joins.cell_of_block hw1 2
  have u2 : w1.frozen? ⟨W, 2, none⟩ = false := Joins.unfrozen_of_block hw1 2
  have HW1 := Lib.hid hw1
  have HRB := Lib.hid hrb
  have HBK := Lib.hid hbk
  have HO := Lib.hid ho
  clear hrb hbk ho hw1 HC
  go_wp2_with fail
  go_ret
  have ho2 := (Only.refl (fun q => q = W) w1).setCell (p := ⟨W, 2, none⟩) (.inl rfl) (.slice A 12 c)
  refine ⟨rfl, A, c, Joins.block_setCell (i := 2) HW1.out _, HRB.out.only ho2 (fun q hq e => by have := HBK.out q hq; omega), hc, (HO.out.mono (fun _ h => .inl h)).trans (ho2.mono (fun _ h => .inr h)) (fun _ _ h => h)⟩
set_option maxRecDepth 8000 in
set_option maxHeartbeats 1000000 in
theorem said_any {w : World} {W S g : Nat} {A : Option Addr} {c : Nat} (hW : w.heap[W]? = some (.cells (wldC g S (.slice A 12 c)) 101 (0, 0))) (hrb : RB w A 12 helloB) :
    Calls Tryz.prog 15 #[.pointer (some ⟨W, 0, none⟩), .int .i64 0] w (Cloned w 12 helloB) := by
  have HC := Lib.hid (sclone A 12 c helloB w hrb (by omega))
  have c2 : w.cell? ⟨W, 2, none⟩ = some (.slice A 12 c) := Joins.cell_of_block hW 2
  clear hW hrb
  go_enter Tryz.func15, Tryz.ntmps15
  go_wp2_with fail
  refine HC.out.mono ?_
  rintro e w1 ⟨A', c', rfl, hown, hb⟩
  have HO := Lib.hid hown
  have HB := Lib.hid hb
  clear hown hb HC
  go_wp2_with fail
  go_ret
  exact ⟨A', c', rfl, HO.out, HB.out⟩
set_option maxRecDepth 8000 in
set_option maxHeartbeats 1000000 in
theorem wdo_any {w : World} {W S g gs : Nat} {v : Value} (hW : w.heap[W]? = some (.cells (wldC g S v) 101 (0, 0))) (hS : w.heap[S]? = some (.cells (srvC g gs) 183 (0, 0))) (hne : W ≠ S) :
    Calls Tryz.prog 14 #[.pointer (some ⟨W, 0, none⟩), .agg #[.int .i64 1, .int .i64 0, .slice none 0 0, .slice none 0 0]] w (Greeted w W S g) := by
  obtain ⟨ws, hws⟩ : ∃ ws, ws = w.alloc (.cells #[.int .i64 1, .int .i64 0, .slice none 0 0, .slice none 0 0] 58) := ⟨_, rfl⟩
  have hbs : Below w.heap.size w ws := by rw [hws]; exact (Below.refl _ _).alloc (Nat.le_refl _) _
  have hg1 : ws.heap[w.heap.size]? = some (.cells #[.int .i64 1, .int .i64 0, .slice none 0 0, .slice none 0 0] 58 (0, 0)) := by rw [hws]; exact heap_alloc_new w _
  have hWl : W < w.heap.size := (Array.getElem?_eq_some_iff.1 hW).1
  have hSl : S < w.heap.size := (Array.getElem?_eq_some_iff.1 hS).1
  have HC := Lib.hid (wconnect_any ((hbs.block _ hWl).trans hW) ((hbs.block _ hSl).trans hS) hne)
  have HBS := Lib.hid hbs
  have HWS := Lib.hid hws
  have c0 : ws.cell? ⟨w.heap.size, 0, none⟩ = some (.int .i64 1) := Joins.cell_of_block hg1 0
  clear hW hS hbs hws hg1
  go_enter Tryz.func14, Tryz.ntmps14
  go_upto_region 1 with fail
  rw [← HWS.out]
  go_wp2_with fail
  refine HC.out.mono ?_
  rintro e w1 ⟨rfl, A, c, h1, h2, h3, h4⟩
  have H : Hid (∃ A c, w1.heap[W]? = some (.cells (wldC g S (.slice A 12 c)) 101 (0, 0)) ∧ RB w1 A 12 helloB ∧ 12 ≤ c ∧ Only (fun q => q = S ∨ q = W) w w1) := ⟨A, c, h1, h2, h3, (Only.of_below HBS.out (fun q => q = S ∨ q = W)).trans h4 (fun _ _ h => h)⟩
  clear h1 h2 h3 h4 A c
  go_wp2_with fail
  go_ret
  exact ⟨rfl, H.out⟩
theorem hello_str : str helloB = ⟨#[42, 32, 79, 75, 32, 99, 117, 98, 98, 121, 13, 10]⟩ := by rfl
set_option maxRecDepth 8000 in
set_option maxHeartbeats 1000000 in
theorem awake_any {w : World} (hE : Env w) (h9 : 9 ≤ w.heap.size) : Calls Tryz.prog 4 #[] w fun e w' => e = .returned (.bool true) ∧ Below w.heap.size w w' := by
  have HN := Lib.hid (wnew_any hE h9)
  clear hE
  go_enter Tryz.func4, Tryz.ntmps4
  go_wp2_with fail
  refine HN.out.mono ?_
  rintro e w1 ⟨W, g, S, gs, rfl, hW, hS, hWz, hSz, hne, hb1⟩
  have HB1 := Lib.hid hb1
  have HW := Lib.hid hW
  have HS := Lib.hid hS
  clear hb1 hW hS HN
  go_wp2_with fail
  refine (wdo_any HW.out HS.out hne).mono ?_
  rintro e w2 ⟨rfl, A, c, hW2, hrb, hc, ho⟩
  have HSD := Lib.hid (said_any hW2 hrb)
  have HB2 := Lib.hid (((Only.of_below HB1.out (fun q => q = S ∨ q = W)).trans ho (fun _ _ h => h)).below (Nat.le_refl _) (fun q hq e => by rcases e with e | e <;> omega))
  clear hW2 hrb ho
  go_wp2_with fail
  refine HSD.out.mono ?_
  rintro e w3 ⟨A', c', rfl, hown, hb3⟩
  have kc := conv_rb hown.read c'
  rw [hello_str] at kc
  have HB3 := Lib.hid (HB2.out.trans (hb3.mono HB2.out.size))
  clear hown hb3 HSD
  go_wp2_with fail
  go_ret
  exact ⟨rfl, HB3.out⟩
end Go.Proofs.YtlhaempecidohaaGreatDoor
namespace Go.Proofs.YtlhaempecidohaaGreatDoor
open Go.RowKit
/-- an operation of the runs -/
structure OpS where
  kind : Nat
  name : ByteArray
  to_ : ByteArray
  msg : Msg
  us : List Nat
  fl : Int
  how : Int
  all : Bool
def opCells (o : OpS) (s u : Value) : List Value := [.int .u8 (o.kind : Int), .string o.name, .string o.to_] ++ msgCells o.msg s ++ [u, .int .i64 o.fl, .int .i64 o.how, .bool o.all]
/-- its slices -/
structure OpR (w : World) (o : OpS) (A : Option Addr) (k d : Nat) (U : Option Addr) (un uc : Nat) : Prop where
  oct : RB w A k o.msg.oct
  kd : k ≤ d
  us : UR w U un o.us
  date0 : -9223372036854775808 ≤ o.msg.date
  date1 : o.msg.date ≤ 9223372036854775807
structure OpFew (o : OpS) : Prop where
  name : o.name.size ≤ 1000
  to_ : o.to_.size ≤ 1000
  oct : o.msg.oct.length ≤ 60000
  us : o.us.length ≤ 60000
set_option maxRecDepth 8000 in
set_option maxHeartbeats 400000 in
theorem roomy_law {w : World} {g m cap : Nat} {F : DiskF} (h : DiskS w g m cap F) :
    Calls Tryz.prog 7 #[.pointer (some ⟨g, 0, none⟩)] w fun e w' => e = .returned (.bool (decide (3145728 < cap - F.total))) ∧ Below w.heap.size w w' := by
  have HR := Lib.hid (room_any h)
  clear h
  go_enter Tryz.func7, Tryz.ntmps7
  go_wp2_with fail
  refine HR.out.mono ?_
  rintro e w1 ⟨rfl, hb⟩
  have HB := Lib.hid hb
  clear hb
  go_wp2_with fail
  go_ret
  refine ⟨?_, HB.out⟩
  exact congrArg (fun b => Ending.returned (.bool b)) (decide_eq_decide.2 (by omega))
/-- what Do hands back -/
def DoE (w : World) (gs g m mm cap : Nat) (F : DiskF) (e : Ending) (w' : World) : Prop := (∃ v, e = .returned v) ∧ DidS w gs g m mm cap F w'
set_option maxRecDepth 8000 in
set_option maxHeartbeats 4000000 in
theorem do_law {w : World} {gs g m mm cap : Nat} {F : DiskF} {bs : Boxes} (h : StoreS w gs g m mm cap F bs) (hE : Env w) (hroom : F.total ≤ 1048576) (o : OpS) (A : Option Addr) (k d : Nat) (U : Option Addr) (un uc : Nat) (ho : OpR w o A k d U un uc) (hf : OpFew o) :
    Calls Tryz.prog 8 #[.pointer (some ⟨gs, 0, none⟩), .agg (opCells o (.slice A k d) (.slice U un uc)).toArray] w (DoE w gs g m mm cap F) := by
  obtain ⟨ws, hws⟩ : ∃ ws, ws = w.alloc (.cells (opCells o (.slice A k d) (.slice U un uc)).toArray 39) := ⟨_, rfl⟩
  have hbs : Below w.heap.size w ws := by rw [hws]; exact (Below.refl _ _).alloc (Nat.le_refl _) _
  have hg1 : ws.heap[w.heap.size]? = some (.cells (opCells o (.slice A k d) (.slice U un uc)).toArray 39 (0, 0)) := by rw [hws]; exact heap_alloc_new w _
  have hk : k = o.msg.oct.length := ho.oct.1.symm
  have hun : un = o.us.length := ho.us.1.symm
  have hk6 := hf.oct
  have hu6 := hf.us
  have hs := h.below hbs
  have hEs := hE.below hbs
  have hoct := ho.oct.below hbs
  have hus := ho.us.below0 hbs
  have n1 := hf.name
  have n2 := hf.to_
  have HD : Hid (∀ w', DidS ws gs g m mm cap F w' → DidS w gs g m mm cap F w') := fun w' ⟨F', bs', h1, h2, h3⟩ => ⟨F', bs', h1, h2, (Only.of_below hbs _).trans h3 (fun _ _ h => h)⟩
  have HWS := Lib.hid hws
  have HX := Lib.hid hg1
  have H0 : Hid (Calls Tryz.prog 20 #[.pointer (some ⟨gs, 0, none⟩), .string o.name] ws (CreateE ws gs g m mm cap F)) := create_any hs hEs o.name (by omega)
  have H1 : Hid (Calls Tryz.prog 21 #[.pointer (some ⟨gs, 0, none⟩), .string o.name, .agg #[.int .u32 (o.msg.uid : Int), .int .i64 o.msg.date, .int .i64 o.msg.flags, .slice A k d]] ws (AppendE ws gs g m mm cap F)) := sappend_any hs hEs hroom o.name (by omega) o.msg A k d hoct ho.kd (by omega) ho.date0 ho.date1
  have H4 := Lib.hid (sstore_any hs hEs hroom o.name (by omega) U un uc o.us o.fl o.how hus (by omega))
  have H5 := Lib.hid (sexpunge_any hs hEs hroom o.name (by omega) U un uc o.us o.all hus (by omega))
  have H6 := Lib.hid (scopy_any hs hEs hroom o.name o.to_ (by omega) (by omega) U un uc o.us hus (by omega))
  obtain ⟨K, hK⟩ : ∃ K, w.heap.size = K := ⟨_, rfl⟩
  rw [hK] at HX
  have cell : ∀ j v, (opCells o (.slice A k d) (.slice U un uc))[j]? = some v → ws.cell? ⟨K, j, none⟩ = some v := fun j v hv => by
    rw [Joins.cell_of_block HX.out j, List.getElem?_toArray, hv]
  have c0 : ws.cell? ⟨K, 0, none⟩ = some (.int .u8 (o.kind : Int)) := cell 0 _ rfl
  have c1 : ws.cell? ⟨K, 1, none⟩ = some (.string o.name) := cell 1 _ rfl
  have c2 : ws.cell? ⟨K, 2, none⟩ = some (.string o.to_) := cell 2 _ rfl
  have c3 : ws.cell? ⟨K, 3, none⟩ = some (.int .u32 (o.msg.uid : Int)) := cell 3 _ rfl
  have c4 : ws.cell? ⟨K, 4, none⟩ = some (.int .i64 o.msg.date) := cell 4 _ rfl
  have c5 : ws.cell? ⟨K, 5, none⟩ = some (.int .i64 o.msg.flags) := cell 5 _ rfl
  have c6 : ws.cell? ⟨K, 6, none⟩ = some (.slice A k d) := cell 6 _ rfl
  have c7 : ws.cell? ⟨K, 7, none⟩ = some (.slice U un uc) := cell 7 _ rfl
  have c8 : ws.cell? ⟨K, 8, none⟩ = some (.int .i64 o.fl) := cell 8 _ rfl
  have c9 : ws.cell? ⟨K, 9, none⟩ = some (.int .i64 o.how) := cell 9 _ rfl
  have c10 : ws.cell? ⟨K, 10, none⟩ = some (.bool o.all) := cell 10 _ rfl
  have HK := Lib.hid hK
  clear h hE ho hf hbs hws hg1 hs hEs hoct hus cell hk hun hk6 hu6 n1 n2 hroom hK
  unfold opCells msgCells
  simp only [List.cons_append, List.nil_append]
  go_enter Tryz.func8, Tryz.ntmps8
  go_upto_region 1 with fail
  rw [HK.out]
  show Code.wp _ _ _ _ (w.alloc (.cells (opCells o (.slice A k d) (.slice U un uc)).toArray 39))
  rw [← HWS.out]
  generalize (o.kind : Int) = z at c0 ⊢
  by_cases k0 : z = 0
  · subst k0
    go_wp2_with fail
    refine H0.out.mono ?_
    rintro e w1 ⟨⟨z1, rfl⟩, hd⟩
    have H := HD.out _ hd
    clear hd
    go_wp2_with fail
    go_ret2
    exact ⟨⟨_, rfl⟩, H⟩
  · by_cases k1 : z < 4
    · go_wp2_with fail
      refine H1.out.mono ?_
      rintro e w1 ⟨⟨u1, z1, rfl⟩, hd⟩
      have H := HD.out _ hd
      clear hd
      by_cases hz : z1 = 0
      · subst hz
        go_wp2_with fail
        go_ret2
        obtain ⟨F', bs', h1, h2, h3⟩ := H
        have hb : Below w1.heap.size w1 (w1.alloc (.cells #[.int .u32 u1] 35)) := (Below.refl _ _).alloc (Nat.le_refl _) _
        exact ⟨⟨_, rfl⟩, F', bs', h1.below hb, h2, h3.trans (Only.of_below hb _) (fun _ _ h => h)⟩
      · go_wp2_with fail
        go_ret2
        exact ⟨⟨_, rfl⟩, H⟩
    · by_cases k4 : z = 4
      · subst k4
        go_wp2_with fail
        refine H4.out.mono ?_
        rintro e w1 ⟨⟨z1, rfl⟩, hd⟩
        have H := HD.out _ hd
        clear hd
        go_wp2_with fail
        go_ret2
        exact ⟨⟨_, rfl⟩, H⟩
      · by_cases k5 : z = 5
        · subst k5
          go_wp2_with fail
          refine H5.out.mono ?_
          rintro e w1 ⟨⟨G, kk, kc, z1, rfl⟩, hd⟩
          have H := HD.out _ hd
          clear hd
          go_wp2_with fail
          go_ret2
          exact ⟨⟨_, rfl⟩, H⟩
        · go_wp2_with fail
          refine H6.out.mono ?_
          rintro e w1 ⟨⟨G, kk, kc, z1, rfl⟩, hd⟩
          have H := HD.out _ hd
          clear hd
          go_wp2_with fail
          go_ret2
          exact ⟨⟨_, rfl⟩, H⟩
end Go.Proofs.YtlhaempecidohaaGreatDoor
namespace Go.Proofs.YtlhaempecidohaaGreatDoor
open Go.RowKit
theorem inf39 : (Tryz.prog.info? 39).map (fun i => (i.zero, i.size, i.bytes)) = some (some (.agg #[.int .u8 0, .string ⟨#[]⟩, .string ⟨#[]⟩, .int .u32 0, .int .i64 0, .int .i64 0, .slice none 0 0, .slice none 0 0, .int .i64 0, .int .i64 0, .bool false]), 11, 136) := by kernel_rfl
theorem size39 : (Tryz.prog.info? 39).map (·.size) = some 11 := by kernel_rfl
theorem und60 : Tryz.prog.underlying 60 = some (.slice 39) := by kernel_rfl
theorem row39 : (Tryz.prog.underlying 39).map (·.isRow) = some true := by kernel_rfl
/-- append of one struct, to whatever fits into memory -/
theorem wp_append_row_wide {P : Program} {w : World} {ops : Array Oper} {rest : List Oper} {o : Oper} {a : Act} {Q : Exit → Act → World → Prop} (hgd : o.guard = none) (s x : Operand) (S T : TypeId) (k : Nat) (z : Value) (bytes : Nat)
    (hu : P.underlying S = some (.slice T)) (hi : (P.info? T).map (fun i => (i.zero, i.size, i.bytes)) = some (some z, k, bytes)) (hz : z.cells.size = k) (hk : 0 < k)
    (ho : o.op = .call { callee := .builtin .append, args := #[s, x], argTypes := #[S, S] })
    {base : Nat} {A : Option Addr} {n c : Nat} {vs : List (List Value)} {g cx : Nat} {v : List Value} (hs : a.eval s = .slice A n c) (hx : a.eval x = .slice (some ⟨g, 0, none⟩) 1 cx) (hown : RowO w base T k A n c vs)
    (hg : w.rangeAt g 0 v) (hv : v.length = k) (h1 : ∀ u ∈ v, u.oneCell' = true) (hlen : n ≤ 1000000000000) (hb : (n + 1) * bytes ≤ 140737488355328) (hbase : base ≤ w.heap.size)
    (h : ∀ A' c' w', RowO w' base T k A' (n + 1) c' (vs ++ [v]) → Only (fun b => blk A = some b) w w' → (blk A' = blk A ∨ blk A' = some w.heap.size) → wpList P ops Q rest (a.put o.dst (.slice A' (n + 1) c')) w') :
    wpList P ops Q (o :: rest) a w := by
  refine wpList_plain hgd fun _ hK => ?_
  obtain ⟨i, hi, hz0, hz1, hz2⟩ := info_parts hi
  obtain ⟨v', w', hrun, h2, h3, _, h5⟩ := run_append_own_at (P := P) w base S o.type T i z k bytes hu hi hz0 hz1 hz2 hz hk _ n _ hown.own ⟨g, 0, none⟩ 1 cx v (by rw [hv, Nat.one_mul])
    (fun j u hu => by rw [Addr.add_mid]; exact hg j u hu) h1 (by unfold maxLen; omega) hb hbase
  have hex : ∃ A' c', v' = .slice A' (n + 1) c' := by
    rcases h2.2 with ⟨hv, h0⟩ | ⟨g, cap, cur, hv, _⟩
    · omega
    · exact ⟨_, _, hv⟩
  obtain ⟨A', c', rfl⟩ := hex
  rw [ownBlock_slice, ownBlock_slice] at h5
  rw [ownBlock_slice] at h3
  have hO : Only (fun b => blk A = some b) w w' := Only.of_grown h3 (fun k hk => hk)
  have hR : RowO w' base T k A' (n + 1) c' (vs ++ [v]) := ⟨by rw [List.length_append, hown.len]; rfl, by
    intro u hu
    rcases List.mem_append.1 hu with hu | hu
    · exact hown.each u hu
    · rw [List.mem_singleton.1 hu]; exact hv, by rw [List.flatten_append, List.flatten_cons, List.flatten_nil, List.append_nil]; exact h2⟩
  have hK2 := hK _ _ (h A' c' w' hR hO h5)
  unfold Oper.wp execOp
  simp only [ho, resolve, invoke, builtin, Sem.run_bind, Sem.run_pure, Result.andThen_ok, List.map_toArray, List.map_cons, List.map_nil, hs, hx, hrun]
  exact hK2
/-- a run's operation, as it came in -/
structure RunR (w : World) (v : List Value) (o : OpS) : Prop where
  form : ∃ A k d U un uc y1 y2 KA kn kc, v = opCells o (.slice A k d) (.slice U un uc) ++ [y1, y2, .slice KA kn kc] ∧ OpR w o A k d U un uc
  name : o.name.size ≤ 140737488355328
  to_ : o.to_.size ≤ 140737488355328
  oct : o.msg.oct.length ≤ 140737488355328
  us : o.us.length ≤ 140737488355328
def RunsR (w : World) (A : Option Addr) (n : Nat) (os : List OpS) : Prop :=
  os.length = n ∧ n ≤ 1000000000000 ∧ (n + 1) * 136 ≤ 140737488355328 ∧ (0 < n → ∃ b p, A = some ⟨b, p, none⟩ ∧ b < w.heap.size ∧ ∀ i o, os[i]? = some o → ∃ v, RunR w v o ∧ w.rangeAt b (p + i * 14) v)
theorem OpR.below {w w' : World} {o : OpS} {A : Option Addr} {k d : Nat} {U : Option Addr} {un uc : Nat} (h : OpR w o A k d U un uc) (hb : Below w.heap.size w w') : OpR w' o A k d U un uc := ⟨h.oct.below hb, h.kd, h.us.below0 hb, h.date0, h.date1⟩
theorem RunR.below {w w' : World} {v : List Value} {o : OpS} (h : RunR w v o) (hb : Below w.heap.size w w') : RunR w' v o := by
  obtain ⟨A, k, d, U, un, uc, y1, y2, KA, kn, kc, e, hr⟩ := h.form
  exact ⟨⟨A, k, d, U, un, uc, y1, y2, KA, kn, kc, e, hr.below hb⟩, h.name, h.to_, h.oct, h.us⟩
theorem RunsR.below {w w' : World} {A : Option Addr} {n : Nat} {os : List OpS} (h : RunsR w A n os) (hb : Below w.heap.size w w') : RunsR w' A n os := by
  refine ⟨h.1, h.2.1, h.2.2.1, fun h0 => ?_⟩
  obtain ⟨b, p, e, hl, hc⟩ := h.2.2.2 h0
  refine ⟨b, p, e, Nat.lt_of_lt_of_le hl hb.size, fun i o ho => ?_⟩
  obtain ⟨v, hv, hr⟩ := hc i o ho
  exact ⟨v, hv.below hb, fun j u hu => cell_later hb (hr j u hu)⟩
/-- the operations in a row of few's own: names, texts' and numbers' lengths -/
def OpRow (v : List Value) (o : OpS) : Prop := ∃ A k d U un uc, v = opCells o (.slice A k d) (.slice U un uc) ∧ k = o.msg.oct.length ∧ un = o.us.length ∧ o.name.size ≤ 140737488355328 ∧ o.to_.size ≤ 140737488355328 ∧ k ≤ 140737488355328 ∧ un ≤ 140737488355328
def FewE (w : World) (n : Nat) (os : List OpS) (e : Ending) (w' : World) : Prop :=
  (∃ b, e = .returned (.bool b) ∧ (b = true → n ≤ 30 ∧ ∀ o ∈ os, OpFew o)) ∧ Below w.heap.size w w'
set_option maxRecDepth 8000 in
set_option maxHeartbeats 4000000 in
theorem Few_any {w : World} (A : Option Addr) (n c : Nat) (vs : List (List Value)) (os : List OpS) (hr : RowR w A n 11 vs) (hx : All2 OpRow vs os) (hn : n ≤ 1000000000000) :
    Calls Tryz.prog 16 #[.slice A n c, .int .i64 30] w (FewE w n os) := by
  have HR := Lib.hid hr
  have HX := Lib.hid hx
  have HN : Hid (os.length = n) := by rw [← hx.length]; exact hr.len
  clear hr hx
  go_enter Tryz.func16, Tryz.ntmps16
  go_wp2_with fail
  go_loopw [5, 9] (fun v5 v9 wr => ∃ (i T : Nat), i ≤ n ∧ v5 = .int .i64 (T : Int) ∧ v9 = .int .i64 (i : Int) ∧ T ≤ 60000 ∧ i ≤ 30 ∧ (∀ o ∈ os.take i, OpFew o) ∧ Below w.heap.size w wr) (fun _ v9 _ => n - (intOf v9).toNat)
  case atStart => exact ⟨0, 0, Nat.zero_le _, rfl, rfl, Nat.zero_le _, Nat.zero_le _, fun o ho => by simp at ho, Below.refl _ _⟩
  case round =>
    obtain ⟨i, T, hi, rfl, rfl, hT, hi30, hfew, hb⟩ := hrel
    have HB := Lib.hid hb
    have HF := Lib.hid hfew
    by_cases hlt : i < n
    · obtain ⟨g, v, rfl, hv, hvl, hc⟩ := (HR.out.below hb).at_ hlt
      obtain ⟨o, ho, A1, k, d, U, un, uc, rfl, hk, hun, b1, b2, b3, b4⟩ := HX.out.left hv
      have r1 : wr.cell? ⟨g, i * 11 + 1, none⟩ = some (.string o.name) := hc 1 _ rfl
      have r2 : wr.cell? ⟨g, i * 11 + 2, none⟩ = some (.string o.to_) := hc 2 _ rfl
      have r6 : wr.cell? ⟨g, i * 11 + 6, none⟩ = some (.slice A1 k d) := hc 6 _ rfl
      have r7 : wr.cell? ⟨g, i * 11 + 7, none⟩ = some (.slice U un uc) := hc 7 _ rfl
      have HO : Hid (os[i]? = some o) := ho
      have HK := Lib.hid hk
      have HUN := Lib.hid hun
      clear hfew hb hv hvl hc ho hk hun
      go_upto_region 5 with fail
      go_quiet (fail)
      obtain ⟨T', hT'⟩ : ∃ T' : Nat, T' = T + o.name.size + o.to_.size + k + un := ⟨_, rfl⟩
      have eT : (T : Int) + o.name.size + o.to_.size + k + un = (T' : Int) := by rw [hT']; omega
      rw [eT]
      clear eT
      generalize hwd : wr.drewN nq = wd
      have HBW : Hid (Below w.heap.size w wd) := by rw [← hwd]; exact Lib.hid (Below.dn HB.out nq)
      have r1 : wd.cell? ⟨g, i * 11 + 1, none⟩ = some (.string o.name) := by rw [← hwd]; exact r1
      have r2 : wd.cell? ⟨g, i * 11 + 2, none⟩ = some (.string o.to_) := by rw [← hwd]; exact r2
      have HT := Lib.hid hT'
      clear hwd hT' r6 r7
      by_cases h30 : i < 30
      · by_cases h6 : T' ≤ 60000
        · by_cases hn1 : o.name.size ≤ 1000
          · by_cases hn2 : o.to_.size ≤ 1000
            · go_wp2_with fail
              have hof : OpFew o := by
                have h1 := HT.out
                have h2 := HK.out
                have h3 := HUN.out
                exact ⟨hn1, hn2, by omega, by omega⟩
              refine ⟨⟨i + 1, T', hlt, by first | rfl | (congr 1), by first | rfl | (congr 1), h6, by omega, ?_, HBW.out⟩, by simp [intOf]; omega⟩
              intro x hx
              obtain ⟨h1, h2⟩ := List.getElem?_eq_some_iff.1 HO.out
              rw [List.take_succ_eq_append_getElem h1, h2] at hx
              rcases List.mem_append.1 hx with hx | hx
              · exact HF.out x hx
              · rw [List.mem_singleton.1 hx]; exact hof
            · go_wp2_with fail
              go_ret
              exact ⟨⟨false, rfl, fun h => by cases h⟩, HBW.out⟩
          · go_wp2_with fail
            go_ret
            exact ⟨⟨false, rfl, fun h => by cases h⟩, HBW.out⟩
        · go_wp2_with fail
          go_ret
          exact ⟨⟨false, rfl, fun h => by cases h⟩, HBW.out⟩
      · go_wp2_with fail
        go_ret
        exact ⟨⟨false, rfl, fun h => by cases h⟩, HBW.out⟩
    · obtain rfl : i = n := by omega
      go_wp2_with fail
      go_ret
      refine ⟨⟨true, rfl, fun _ => ⟨hi30, fun o ho => HF.out o ?_⟩⟩, HB.out⟩
      rw [List.take_of_length_le (by rw [HN.out]; exact Nat.le_refl _)]
      exact ho
set_option maxRecDepth 8000 in
set_option maxHeartbeats 4000000 in
theorem few_any {w : World} (A : Option Addr) (n c : Nat) (os : List OpS) (h : RunsR w A n os) :
    Calls Tryz.prog 5 #[.slice A n c, .int .i64 30] w (FewE w n os) := by
  have H := Lib.hid h
  have hn1 := h.2.1
  have hn2 := h.2.2.1
  have HN : Hid (os.length = n) := h.1
  clear h
  go_enter Tryz.func5, Tryz.ntmps5
  go_wp2_with fail
  go_loopw [5, 9] (fun v5 v9 wr => ∃ (i : Nat) (G : Option Addr) (gc : Nat) (us : List (List Value)), i ≤ n ∧ v5 = .slice G i gc ∧ v9 = .int .i64 (i : Int) ∧ RowO wr w.heap.size 39 11 G i gc us ∧ All2 OpRow us (os.take i) ∧ Below w.heap.size w wr) (fun _ v9 _ => n - (intOf v9).toNat)
  case atStart => exact ⟨0, none, 0, [], Nat.zero_le _, rfl, rfl, RowO.nil _ _ _ _, trivial, Below.refl _ _⟩
  case round =>
    obtain ⟨i, G, gc, us, hi, rfl, rfl, hrow, hus, hb⟩ := hrel
    have HB := Lib.hid hb
    have HROW := Lib.hid hrow
    have HUS := Lib.hid hus
    have hz := hb.size
    by_cases hlt : i < n
    · obtain ⟨b, p, rfl, hbl, hcs⟩ := H.out.2.2.2 (by omega)
      obtain ⟨o, ho⟩ : ∃ o, os[i]? = some o := ⟨_, List.getElem?_eq_getElem (by rw [HN.out]; exact hlt)⟩
      obtain ⟨v, hv, hr⟩ := hcs i o ho
      obtain ⟨A1, k, d, U, un, uc, y1, y2, KA, kn, kc, rfl, hopr⟩ := hv.form
      have hrw : wr.rangeAt b (p + i * 14) (opCells o (.slice A1 k d) (.slice U un uc)) := fun j u hu => cell_later hb (hr j u (by
        have hj := (List.getElem?_eq_some_iff.1 hu).1
        rw [List.getElem?_append_left hj]; exact hu))
      have r13 : wr.cell? ⟨b, p + i * 14 + 13, none⟩ = some (.slice KA kn kc) := cell_later hb (hr 13 _ rfl)
      have hop : OpRow (opCells o (.slice A1 k d) (.slice U un uc)) o := ⟨A1, k, d, U, un, uc, rfl, hopr.oct.1.symm, hopr.us.1.symm, hv.name, hv.to_, by rw [← hopr.oct.1]; exact hv.oct, by rw [← hopr.us.1]; exact hv.us⟩
      have htk : os.take (i + 1) = os.take i ++ [o] := by
        obtain ⟨h1, h2⟩ := List.getElem?_eq_some_iff.1 ho
        rw [List.take_succ_eq_append_getElem h1, h2]
      have HRW := Lib.hid hrw
      have HOP := Lib.hid hop
      have HTK := Lib.hid htk
      obtain ⟨d39, hu, hd⟩ := rowT row39
      have HU := Lib.hid hu
      have HD := Lib.hid hd
      clear hb hrow hus hcs ho hv hr hopr hrw hop htk hu hd
      by_cases hk : kn ≤ 30
      · go_upto_region 7 with fail
        have hrw := HRW.out
        have HOC : Hid (opCells o (.slice A1 k d) (.slice U un uc) = [.int .u8 (o.kind : Int), .string o.name, .string o.to_, .int .u32 (o.msg.uid : Int), .int .i64 o.msg.date, .int .i64 o.msg.flags, .slice A1 k d, .slice U un uc, .int .i64 o.fl, .int .i64 o.how, .bool o.all]) := rfl
        rw [HOC.out] at hrw
        have HRW2 := Lib.hid hrw
        clear hrw r13
        go_wp2_with (first
          | (refine wpList_load_mid rfl 39 (.tmp 23) rfl b (p + i * 14) rfl _ d39 HRW2.out HU.out HD.out size39 ?_)
          | (at_builtin; refine wp_append_row_wide rfl (.tmp 19) (.tmp 25) 60 39 11 _ 136 und60 inf39 rfl (by decide) rfl rfl rfl (HROW.out.below ((Below.refl _ _).alloc (Nat.le_refl _) _)) (range_new wr [.int .u8 (o.kind : Int), .string o.name, .string o.to_, .int .u32 (o.msg.uid : Int), .int .i64 o.msg.date, .int .i64 o.msg.flags, .slice A1 k d, .slice U un uc, .int .i64 o.fl, .int .i64 o.how, .bool o.all] 39) rfl (by simp [Value.oneCell']) (by omega) (by omega) (by simp; omega) ?_; intro G5 c5 w5 hro5 ho5 hbk5; have HRO5 := Lib.hid hro5; have HO5 := Lib.hid ho5; have hb5 := (Below.refl wr.heap.size wr).alloc (Nat.le_refl _) (.cells #[.int .u8 (o.kind : Int), .string o.name, .string o.to_, .int .u32 (o.msg.uid : Int), .int .i64 o.msg.date, .int .i64 o.msg.flags, .slice A1 k d, .slice U un uc, .int .i64 o.fl, .int .i64 o.how, .bool o.all] 39); have HB5 := Lib.hid hb5; clear hro5 ho5 hbk5 hb5))
        have hrl := HROW.out.lt
        have hop := HOP.out
        rw [HOC.out] at hop
        refine ⟨⟨i + 1, G5, c5, us ++ [_], hlt, rfl, by first | rfl | (congr 1), HRO5.out, ?_, ?_⟩, by simp [intOf]; omega⟩
        · rw [HTK.out]
          exact HUS.out.snoc hop
        · exact HB.out.trans ((HB5.out.mono hz).trans (HO5.out.below (Nat.le_trans hz HB5.out.size) (fun q hq e => by have := (hrl q e).1; omega)))
      · go_wp2_with fail
        go_ret
        exact ⟨⟨false, rfl, fun h => by cases h⟩, HB.out⟩
    · obtain rfl : i = n := by omega
      have hx : All2 OpRow us os := by have := HUS.out; rwa [List.take_of_length_le (by rw [HN.out]; exact Nat.le_refl _)] at this
      have HW := Lib.hid (Few_any G i gc us os HROW.out.read hx hn1)
      clear hx hb hrow hus
      go_wp2_with fail
      refine HW.out.mono ?_
      rintro e w2 ⟨⟨fb, rfl, hfb⟩, hb2⟩
      have HFB := Lib.hid hfb
      have HB2 := Lib.hid (HB.out.trans (hb2.mono hz))
      clear hfb hb2
      go_wp2_with fail
      go_ret
      exact ⟨⟨fb, rfl, HFB.out⟩, HB2.out⟩
end Go.Proofs.YtlhaempecidohaaGreatDoor
