/-
  Package repair: Mend. Package store: Copy. Package fsck: same: logs that are put aside leave the first mailbox.
-/
import Derived.Test.YtlhaempecidohaaGreatDoorJbq
import Derived.Test.YtlhaempecidohaaGreatDoorJbr
import Derived.Test.YtlhaempecidohaaGreatDoorJar
import Derived.Test.YtlhaempecidohaaGreatDoorJaj
set_option linter.unusedSimpArgs false
set_option linter.unusedVariables false
namespace Go.Proofs.YtlhaempecidohaaGreatDoor
open Go.RowKit
/-- behind a repair: the index is there anew, the flags too; what the index was stands aside -/
def Mended (F F' : DiskF) (B : BoxSt) (b : List Nat) : Prop :=
  ∀ s, AL.get F' s = if s = idxN 0 then some (safeF (idxB B.idx)) else if s = flgN 0 then some (safeF (flgB B.anew.f)) else if s = badN (idxN 0) then some (safeF b) else AL.get F s
theorem Mended.good {F F' : DiskF} {bs : Boxes} {B : BoxSt} {b : List Nat} (h : Mended F F' B b) (hG : Good F bs (some b)) (hB : (0, B) ∈ bs) : Good F' (bs.turn 0 B.anew) none := by
  have h16 : (0 : Nat) < 16 := by decide
  have hu := Upd.put F (badN (idxN 0)) (safeF b)
  have hin := names_in
  have hne : ∀ s ∈ Nm0, s ≠ badN (idxN 0) := fun s hs e => bad_ne hs e.symm
  have h0 : Good (AL.put F (badN (idxN 0)) (safeF b)) bs (some b) := by
    refine hG.of_same (hG.names.upd hu (bad_sub (hin 0 h16).2.1) (fun f hf => by cases hf; rfl)) (fun n hn => hu.other (hne _ (hin n hn).1)) (fun p hp => ⟨hu.other (hne _ (hin _ (hG.few p hp)).2.1), hu.other (hne _ (hin _ (hG.few p hp)).2.2)⟩) ?_
    rw [hu.other (hne _ new_in)]
    exact hG.new
  have hla : Laid (AL.put F (badN (idxN 0)) (safeF b)) F' 0 B.anew := fun s => by
    rw [h s, AL.get_put]
    have e1 : B.anew.idx = B.idx := rfl
    have e2 : B.anew.ns = B.ns := rfl
    rw [e1, e2]
    split
    · rfl
    · split
      · rfl
      · by_cases hl : s = logN 0
        · rw [if_pos hl, if_neg (by rw [hl]; exact hne _ (hin 0 h16).1), hl]
          exact hG.log _ hB
        · rw [if_neg hl]
  have := h0.laid hB hla (whole_anew (hG.whole _ hB)) rfl
  rw [if_pos rfl] at this
  exact this
theorem Mended.stays {F F' : DiskF} {B : BoxSt} {b : List Nat} (h : Mended F F' B b) {s : ByteArray} (hs : s ∈ Nm0) (h1 : s ≠ idxN 0) (h2 : s ≠ flgN 0) : AL.get F' s = AL.get F s := by
  rw [h s, if_neg h1, if_neg h2, if_neg (fun e => bad_ne hs e.symm)]
theorem Mended.aside {F F' : DiskF} {B : BoxSt} {b : List Nat} (h : Mended F F' B b) : AL.get F' (badN (idxN 0)) = some (safeF b) ∧ AL.get F' (idxN 0) = some (safeF (idxB B.idx)) := by
  have h16 : (0 : Nat) < 16 := by decide
  constructor
  · rw [h, if_neg (bad_ne (names_in 0 h16).2.1), if_neg (bad_ne (names_in 0 h16).2.2), if_pos rfl]
  · rw [h, if_pos rfl]
theorem Mended.bare {F F' : DiskF} {bs : Boxes} {B : BoxSt} {b : List Nat} (h : Mended F F' B b) (hG : Good F bs (some b)) (hb : Bare F bs) : Bare F' (bs.turn 0 B.anew) := fun n hn hnn => by
  have h16 : (0 : Nat) < 16 := by decide
  rw [turn_nums] at hnn
  have n0 : n ≠ 0 := fun e => hnn (by obtain ⟨b0, r, e1, -⟩ := hG.first; rw [e1, e]; simp [Boxes.nums])
  obtain ⟨_, j2, j3, _, _, _⟩ := names_inj n hn 0 h16
  obtain ⟨_, _, _, m1, m2, m3⟩ := names_inj 0 h16 n hn
  obtain ⟨_, _, _, q1, q2, q3⟩ := names_inj n hn 0 h16
  rw [h.stays (names_in n hn).2.1 (fun e => n0 (j2 e)) q3, h.stays (names_in n hn).2.2 (fun e => m3 e.symm) (fun e => n0 (j3 e))]
  exact hb n hn hnn
/-- what Mend hands back of a mailbox whose index is another one -/
def MendE (w : World) (g m cap : Nat) (F : DiskF) (B : BoxSt) (b : List Nat) (e : Ending) (w' : World) : Prop :=
  ∃ (s : ByteArray) (x y : Nat) (A : Option Addr) (n c : Nat) (F' : DiskF), e = .returned (.tuple #[.agg #[.string s, .int .u32 (x : Int), .int .u32 (y : Int), .slice A n c], .int .i64 0]) ∧ DiskS w' g m cap F' ∧ Mended F F' B b ∧ Only (DB g m) w w'
/-- what Mend hands back of a mailbox that is whole -/
def MendW (w : World) (e : Ending) (w' : World) : Prop :=
  ∃ (s : ByteArray) (x y : Nat) (A : Option Addr) (n c : Nat), e = .returned (.tuple #[.agg #[.string s, .int .u32 (x : Int), .int .u32 (y : Int), .slice A n c], .int .i64 0]) ∧ Below w.heap.size w w'
set_option maxRecDepth 8000 in
set_option maxHeartbeats 2000000 in
theorem mendW_any {w : World} {g n : Nat} {bx : BoxS} (hW : ∀ w', Below w.heap.size w w' → Calls Tryz.prog 35 #[.pointer (some ⟨g, 0, none⟩), .int .i64 (n : Int)] w' (WhoE w' bx true)) :
    Calls Tryz.prog 12 #[.pointer (some ⟨g, 0, none⟩), .int .i64 (n : Int)] w (MendW w) := by
  obtain ⟨ws, hws⟩ : ∃ ws, ws = w.alloc (.cells #[.string ⟨#[]⟩, .int .u32 0, .int .u32 0, .slice none 0 0] 49) := ⟨_, rfl⟩
  have hbs : Below w.heap.size w ws := by rw [hws]; exact (Below.refl _ _).alloc (Nat.le_refl _) _
  have hg4 : ws.heap[w.heap.size]? = some (.cells #[.string ⟨#[]⟩, .int .u32 0, .int .u32 0, .slice none 0 0] 49 (0, 0)) := by rw [hws]; exact heap_alloc_new w _
  have hWs := hW ws hbs
  unfold WhoE at hWs
  simp only [if_true] at hWs
  have HW := Lib.hid hWs
  have HG4 := Lib.hid hg4
  have HBS := Lib.hid hbs
  have HWS := Lib.hid hws
  clear hW hWs hg4 hbs hws
  go_enter Tryz.func12, Tryz.ntmps12
  go_upto_region 1 with fail
  rw [show World.alloc _ _ = ws from HWS.out.symm]
  go_wp2_with fail
  refine HW.out.mono ?_
  rintro e w3 ⟨A, k, c, vs, rfl, hro, hal, hb3⟩
  obtain ⟨w4, hw4⟩ : ∃ w4, w4 = w3.alloc (.cells (boxCells bx.name bx.epoch bx.next (.slice A k c)).toArray 49) := ⟨_, rfl⟩
  have hb4 : Below w3.heap.size w3 w4 := by rw [hw4]; exact (Below.refl _ _).alloc (Nat.le_refl _) _
  have hg7 : w4.heap[w3.heap.size]? = some (.cells (boxCells bx.name bx.epoch bx.next (.slice A k c)).toArray 49 (0, 0)) := by rw [hw4]; exact heap_alloc_new _ _
  have hb34 := hb3.trans (hb4.mono hb3.size)
  have hres := (hb34.block _ (Array.getElem?_eq_some_iff.1 HG4.out).1).trans HG4.out
  have HRES := Lib.hid hres
  have HB4 := Lib.hid (HBS.out.trans (hb34.mono HBS.out.size))
  unfold boxCells at hw4 hg7
  have HW4 := Lib.hid hw4
  have hwl : w.heap.size < w3.heap.size := Nat.lt_of_lt_of_le (Array.getElem?_eq_some_iff.1 HG4.out).1 hb3.size
  have k0 : w4.cell? ⟨w3.heap.size, 0, none⟩ = some (.string bx.name) := cell_of_row w4 _ 0 _ _ _ hg7
  have k1 : w4.cell? ⟨w3.heap.size, 1, none⟩ = some (.int .u32 (bx.epoch : Int)) := cell_of_row w4 _ 1 _ _ _ hg7
  have k2 : w4.cell? ⟨w3.heap.size, 2, none⟩ = some (.int .u32 (bx.next : Int)) := cell_of_row w4 _ 2 _ _ _ hg7
  have k3 : w4.cell? ⟨w3.heap.size, 3, none⟩ = some (.slice A k c) := cell_of_row w4 _ 3 _ _ _ hg7
  have r0 := cell_of_row w4 _ 0 _ _ _ hres
  have r1 := cell_of_row w4 _ 1 _ _ _ hres
  have r2 := cell_of_row w4 _ 2 _ _ _ hres
  have r3 := cell_of_row w4 _ 3 _ _ _ hres
  have rf : ∀ j, w4.frozen? ⟨w.heap.size, j, none⟩ = false := fun j => by simp [World.frozen?, HRES.out]
  clear hro hal hb3 hw4 hb4 hg7 hb34 hres HW
  unfold boxCells
  go_upto_region 2 with fail
  rw [← HW4.out]
  go_wp2_with fail
  obtain ⟨hh, ho7⟩ := res4 HRES.out (.string bx.name) (.int .u32 (bx.epoch : Int)) (.int .u32 (bx.next : Int)) (.slice A k c)
  have hbw7 := HB4.out.trans (ho7.below HB4.out.size (fun b hb e => by omega))
  try simp only [Exit.inBlock, Exit.then]
  refine bodyPost_ret (results_cell_tmp_row rfl _ _ w.heap.size 49 _ (0, 0) rfl hh row49 size49) rfl ?_
  exact ⟨bx.name, bx.epoch, bx.next, A, k, c, rfl, hbw7⟩
theorem Moved.total {F F' : DiskF} {a b : ByteArray} (h : Moved F F' a b) (hF : (AL.keys F).Nodup) (hF' : (AL.keys F').Nodup) (hab : a ≠ b) {f : FileS} (ha : AL.get F a = some f) (hb : AL.get F b = none) : F'.total = F.total := by
  have u1 := Upd.del hF a
  have d1 := AL.nodup_del hF a
  have u2 := Upd.put (AL.del F a) b f
  have d2 := AL.nodup_put d1 b f
  have e := total_of_get hF' d2 (fun s => by
    rw [h s, AL.get_put, AL.get_del hF]
    by_cases h1 : s = a
    · rw [if_pos h1, if_neg (fun e => hab (h1.symm.trans e)), if_pos h1]
    · rw [if_neg h1, if_neg h1, ha])
  have t1 := u1.total hF d1
  have t2 := u2.total d1 d2
  rw [ha] at t1
  rw [AL.get_del hF, if_neg (fun e => hab e.symm), hb] at t2
  have l0 : lenF none = 0 := rfl
  rw [l0] at t1 t2
  omega
set_option maxRecDepth 10000 in
set_option maxHeartbeats 8000000 in
theorem mend_any {w : World} {g m cap : Nat} {F : DiskF} {bs : Boxes} {b : List Nat} (h : DiskS w g m cap F) (hG : Good F bs (some b)) {B : BoxSt} (hB : (0, B) ∈ bs) (hne : idxB B.idx ≠ b) (hbad : AL.get F (badN (idxN 0)) = none) (hE : Env w) (hg9 : 9 ≤ g ∧ 9 ≤ m) (hfit : F.total + 9000 ≤ cap) :
    Calls Tryz.prog 12 #[.pointer (some ⟨g, 0, none⟩), .int .i64 0] w (MendE w g m cap F B b) := by
  have hW : Whole B.ns B.f := hG.whole _ hB
  have h16 : (0 : Nat) < 16 := by decide
  obtain ⟨r1, r2, r3⟩ := names_right 0 h16
  obtain ⟨p1, p2, p3, p4, p5, p6⟩ := hW.parts
  have hok := readS_ok hW.formed
  have hns := readS_nsize hW.formed
  have hcl := hW.clean
  have hll : (logB B.ns).length ≤ 4194304 := by have h1 := total_get (f := safeF (logB B.ns)) (hG.log _ hB); have := h.fits; have := h.most; have e : (safeF (logB B.ns)).b.length = (logB B.ns).length := rfl; omega
  have hpo := hW.pagesOk hW.flags
  have hfl : (flgB (flagsOf (readS B.ns) B.f.L)).length ≤ 3012 ∧ (idxB (ofI (readS B.ns) (logB B.ns).length)).length ≤ 5012 := by
    have h1 := hpo
    unfold pagesOk at h1
    rw [Bool.and_eq_true] at h1
    exact ⟨rightFlg_bytes h1.1, rightIdx_bytes h1.2⟩
  have hnm0 : (readS B.ns).name ≠ ByteArray.empty := fun e => by rw [e, named_empty] at p1; cases p1
  have hnb' := str_empty (decide_eq_false hnm0)
  obtain ⟨ws, hws⟩ : ∃ ws, ws = w.alloc (.cells #[.string ⟨#[]⟩, .int .u32 0, .int .u32 0, .slice none 0 0] 49) := ⟨_, rfl⟩
  have hbs : Below w.heap.size w ws := by rw [hws]; exact (Below.refl _ _).alloc (Nat.le_refl _) _
  have hg4 : ws.heap[w.heap.size]? = some (.cells #[.string ⟨#[]⟩, .int .u32 0, .int .u32 0, .slice none 0 0] 49 (0, 0)) := by rw [hws]; exact heap_alloc_new w _
  have hd := h.below hbs
  have hWh : Calls Tryz.prog 35 #[.pointer (some ⟨g, 0, none⟩), .int .i64 0] ws (WhoE ws (boxOf (readS B.ns) B.f) false) := by
    have h1 := whole_any hd 0 h16 B.ns B.f hW b (hG.log _ hB) (hG.idx0 b rfl) (hG.flg _ hB) (hE.below hbs)
    rw [show decide (idxB (ofI (readS B.ns) (logB B.ns).length) = b) = false from decide_eq_false hne] at h1
    exact h1
  unfold WhoE at hWh
  simp only [Bool.false_eq_true, if_false] at hWh
  have HR1 : Hid (∀ w', Below ws.heap.size ws w' → Calls Tryz.prog 9 #[.pointer (some ⟨g, 0, none⟩), .string (logN 0)] w' (GotB w' (logB B.ns))) := fun w' hb => read_yes (hd.below hb) (right_size r1) (hG.log _ hB)
  have HF1 : Hid (∀ w, Calls Tryz.prog 36 #[.string ⟨#[108, 111, 103]⟩, .int .i64 0] w fun e w' => e = .returned (.string (logN 0)) ∧ w' = w) := fun w => rfile_any ⟨#[108, 111, 103]⟩ (logN 0) (by decide) 0 h16 (logN_lit 0 h16) w
  have HRP : Hid (∀ w' (A : Option Addr) (n c : Nat) (vs : List (List Value)), Below ws.heap.size ws w' → RowR w' A n 6 vs → All2 (LiveR w') vs (readS B.ns).live →
      Calls Tryz.prog 38 #[.pointer (some ⟨g, 0, none⟩), .int .i64 0, .agg (logCells (readS B.ns) (.slice A n c) ((logB B.ns).length : Int) true).toArray, .bool true] w' (PagedE w' g m cap F B.f.L)) := fun w' A n c vs hb hr hx => rpages_any (hd.below hb) hG hB hne hbad ((hE.below hbs).below hb) hg9 A n c vs hr hx
  have HWH := Lib.hid hWh
  have HG4 := Lib.hid hg4
  have HBS := Lib.hid hbs
  have HWS := Lib.hid hws
  have HG := Lib.hid hG
  have HB := Lib.hid hB
  have HE := Lib.hid (hE.below hbs)
  have HNE := Lib.hid hne
  have HOK := Lib.hid hok
  have HNS : Hid ((readS B.ns).name.size ≤ 60) := hns
  have HCL := Lib.hid hcl
  have HPO := Lib.hid hpo
  have HFL := Lib.hid hfl
  have HFM := Lib.hid hW.formed
  have HP5 := Lib.hid p5
  have HFIT := Lib.hid hfit
  have HD := Lib.hid hd
  have hgm := h.lt
  have hep : (1 : Int) ≤ ((readS B.ns).epoch : Int) := by omega
  have HG9 := Lib.hid hg9
  have HBAD := Lib.hid hbad
  clear h hG hB hne hbad hE hg9 hfit hW r1 r2 r3 p1 p2 p3 p4 p5 p6 hok hns hcl hpo hfl hnm0 hws hbs hg4 hd hWh
  go_enter Tryz.func12, Tryz.ntmps12
  go_upto_region 1 with fail
  rw [show World.alloc _ _ = ws from HWS.out.symm]
  go_wp2_with fail
  refine HWH.out.mono ?_
  rintro e w1 ⟨rfl, hb1⟩
  have HB1 := Lib.hid (hb1.alloc hb1.size (.cells #[.string ⟨#[]⟩, .int .u32 0, .int .u32 0, .slice none 0 0] 49))
  clear hb1 HWH
  go_wp2_with fail
  refine (HF1.out _).mono ?_
  rintro e w2 ⟨rfl, hw2⟩
  rw [hw2]
  clear hw2 w2
  go_wp2_with fail
  refine (HR1.out _ HB1.out).mono ?_
  rintro e w3 ⟨A3, c3, rfl, hown3, hb3⟩
  have hb03 := HB1.out.trans (hb3.mono HB1.out.size)
  have hRd := read_any A3 (logB B.ns).length c3 B.ns w3 HFM.out hown3.read hown3.le (by omega) (HE.out.below hb03)
  rw [HCL.out] at hRd
  have HRD := Lib.hid hRd
  have HB3 := Lib.hid hb03
  clear hown3 hb3 hb03 hRd HB1
  go_wp2_with fail
  refine HRD.out.mono ?_
  rintro e w4 ⟨A4, n4, c4, vs4, rfl, hr4, ha4, hb4⟩
  obtain ⟨w5, hw5⟩ : ∃ w5, w5 = w4.alloc (.cells (logCells (readS B.ns) (.slice A4 n4 c4) ((logB B.ns).length : Int) true).toArray 87) := ⟨_, rfl⟩
  have hb45 : Below w4.heap.size w4 w5 := by rw [hw5]; exact (Below.refl _ _).alloc (Nat.le_refl _) _
  have hg10 : w5.heap[w4.heap.size]? = some (.cells (logCells (readS B.ns) (.slice A4 n4 c4) ((logB B.ns).length : Int) true).toArray 87 (0, 0)) := by rw [hw5]; exact heap_alloc_new w4 _
  have hb05 := HB3.out.trans ((hb4.trans (hb45.mono hb4.size)).mono HB3.out.size)
  have hn4 : n4 = (readS B.ns).live.length := by rw [← ha4.length]; exact hr4.len.symm
  have hn500 : n4 ≤ 500 := by rw [hn4]; exact HP5.out
  have hrl : ∀ q, blk A4 = some q → w.heap.size < q := fun q hq => by
    have h1 := (hr4.lt q hq).1
    have h2 := HB3.out.size
    have h3 := (Array.getElem?_eq_some_iff.1 HG4.out).1
    omega
  have hr5 := (hr4.below hb45).read
  have ha5 := (ha4.mono LiveA.r).mono (LiveR.below hb45)
  have hRP := HRP.out w5 A4 n4 c4 vs4 hb05 hr5 ha5
  obtain ⟨L, hL⟩ : ∃ L, readS B.ns = L := ⟨_, rfl⟩
  obtain ⟨T, hT⟩ : ∃ T, (logB B.ns).length = T := ⟨_, rfl⟩
  rw [hL, hT] at hw5 hg10 hRP ⊢
  rw [hL] at hep hnb' ha5
  have HL : Hid (readS B.ns = L) := hL
  have HT : Hid ((logB B.ns).length = T) := hT
  unfold logCells at hw5 hg10 hRP
  have HRP5 := Lib.hid hRP
  have HW5 := Lib.hid hw5
  have HB5 := Lib.hid hb05
  have HG10 := Lib.hid hg10
  have HR5 := Lib.hid hr5
  have HA5 := Lib.hid ha5
  have HRL := Lib.hid hrl
  have h4 : w.heap.size < w4.heap.size := by
    have h2 := HB3.out.size
    have h3 := (Array.getElem?_eq_some_iff.1 HG4.out).1
    have := hb4.size
    omega
  have d0 : w5.cell? ⟨w4.heap.size, 0, none⟩ = some (.string L.name) := cell_of_row w5 _ 0 _ _ _ hg10
  have d1 : w5.cell? ⟨w4.heap.size, 1, none⟩ = some (.int .u32 (L.epoch : Int)) := cell_of_row w5 _ 1 _ _ _ hg10
  have d2 : w5.cell? ⟨w4.heap.size, 2, none⟩ = some (.int .u32 (L.next : Int)) := cell_of_row w5 _ 2 _ _ _ hg10
  have d3 : w5.cell? ⟨w4.heap.size, 3, none⟩ = some (.slice A4 n4 c4) := cell_of_row w5 _ 3 _ _ _ hg10
  have d4 : w5.cell? ⟨w4.heap.size, 4, none⟩ = some (.int .i64 (T : Int)) := cell_of_row w5 _ 4 _ _ _ hg10
  have d5 : w5.cell? ⟨w4.heap.size, 5, none⟩ = some (.bool true) := cell_of_row w5 _ 5 _ _ _ hg10
  have hTb : T ≤ 4194304 := by rw [← hT]; exact hll
  clear hr4 ha4 hb4 hw5 hb45 hg10 hb05 hn4 hrl hr5 ha5 hRP hL hT HRD HRP hll
  unfold logCells
  go_upto_region 6 with fail
  rw [← HW5.out]
  go_wp2_with fail
  refine HRP5.out.mono ?_
  rintro e w6 ⟨A6, k6, c6, F6, rfl, hr6, hd6, hm6, ho6⟩
  have hnd : ∀ q, w.heap.size ≤ q → ¬ DB g m q := fun q hq e => by rcases e with e | e <;> omega
  have hg106 := ho6.heap HG10.out (hnd _ (Nat.le_of_lt h4))
  have hr56 := HR5.out.only ho6 (fun q hq => hnd q (Nat.le_of_lt (HRL.out q hq)))
  have ha56 := HA5.out.mono (LiveR.keep ho6 (HD.out.below HB5.out).noB)
  have hcl' : cleanS L = true := by rw [← HL.out]; exact HCL.out
  have hlv : LogV w6 (.agg (logCells L (.slice A4 n4 c4) (T : Int) true).toArray) L T := ⟨A4, n4, c4, vs4, by rw [hcl'], hr56, ha56⟩
  have hg9 := HG9.out
  have hE6 : Env w6 := (HE.out.below HB5.out).only ho6 (fun q e => by rcases e with e | e <;> omega)
  have hin := names_in 0 (by omega)
  have hnew6 : AL.get F6 newN = none := by rw [hm6.stays new_in (fun e => (names_apart 0 (by omega)).2.2.2.1 e.symm)]; exact HG.out.new
  have hidx0 : AL.get F (idxN 0) = some (safeF b) := HG.out.idx0 b rfl
  have htot6 : F6.total = F.total := hm6.total HD.out.nodup hd6.nodup (fun e => bad_ne hin.2.1 e.symm) hidx0 HBAD.out
  have hfl1 := HFL.out.1
  have hfl2 := HFL.out.2
  have hok' := HOK.out
  have hpo' := HPO.out
  have hns' := HNS.out
  have hp5' := HP5.out
  rw [HL.out, HT.out] at hpo' hfl2
  rw [HL.out] at hfl1 hok' hns' hp5'
  have hPg := pagesf_any hd6 0 (by omega) hnew6 L T _ A6 k6 c6 B.f.L hlv hok' (by omega) (by omega) hr6 (by
    have h1 := hr6.len
    rw [List.length_map] at h1
    have h2 := (HG.out.whole _ HB.out).length
    have h3 : (readS B.ns).live.length ≤ 500 := HP5.out
    have h2' : B.f.L.length = (readS B.ns).live.length := h2
    omega) hE6 hpo' (by have := HFIT.out; omega)
  have hPg' : Calls Tryz.prog 42 #[.pointer (some ⟨g, 0, none⟩), .int .i64 0, .agg (logCells L (.slice A4 n4 c4) (T : Int) true).toArray, .slice A6 k6 c6] w6 (PagesE w6 g m cap F6 0 (flgB (flagsOf L B.f.L)) (idxB (ofI L T))) := hPg
  have hres6 := ho6.heap ((HB5.out.block _ (Array.getElem?_eq_some_iff.1 HG4.out).1).trans HG4.out) (hnd _ (Nat.le_refl _))
  unfold logCells at hPg'
  have HPG := Lib.hid hPg'
  have HM6 := Lib.hid hm6
  have HI0 := Lib.hid hidx0
  have HE6 := Lib.hid hE6
  have HRES6 := Lib.hid hres6
  have HO6 := Lib.hid ((Only.of_below (HBS.out.trans (HB5.out.mono HBS.out.size)) (DB g m)).trans ho6 (fun _ _ h => h))
  have d0 : w6.cell? ⟨w4.heap.size, 0, none⟩ = some (.string L.name) := cell_of_row w6 _ 0 _ _ _ hg106
  have d1 : w6.cell? ⟨w4.heap.size, 1, none⟩ = some (.int .u32 (L.epoch : Int)) := cell_of_row w6 _ 1 _ _ _ hg106
  have d2 : w6.cell? ⟨w4.heap.size, 2, none⟩ = some (.int .u32 (L.next : Int)) := cell_of_row w6 _ 2 _ _ _ hg106
  have d3 : w6.cell? ⟨w4.heap.size, 3, none⟩ = some (.slice A4 n4 c4) := cell_of_row w6 _ 3 _ _ _ hg106
  have d4 : w6.cell? ⟨w4.heap.size, 4, none⟩ = some (.int .i64 (T : Int)) := cell_of_row w6 _ 4 _ _ _ hg106
  have d5 : w6.cell? ⟨w4.heap.size, 5, none⟩ = some (.bool true) := cell_of_row w6 _ 5 _ _ _ hg106
  clear hr6 hd6 hm6 ho6 hg106 hr56 ha56 hcl' hlv hE6 hin hnew6 hidx0 htot6 hfl1 hfl2 hok' hpo' hns' hp5' hPg hPg' hres6 HRP5
  go_wp2_with fail
  refine HPG.out.mono ?_
  rintro e w7 ⟨rfl, F7, hd7, ht7, ho7⟩
  have hmd : Mended F F7 B b := fun s => by
    have h1 := ht7 s
    rw [← HL.out, ← HT.out] at h1
    rw [h1]
    split
    · rfl
    · split
      · rfl
      · rename_i hs1 hs2
        rw [HM6.out s, if_neg hs1, HI0.out]
  have hgd := hmd.good HG.out HB.out
  have hE7 : Env w7 := HE6.out.only ho7 (fun q e => by rcases e with e | e <;> omega)
  have hWh := hgd.whole_at hd7 (turn_in HB.out B.anew) hE7
  have hWh' : Calls Tryz.prog 35 #[.pointer (some ⟨g, 0, none⟩), .int .i64 0] w7 (WhoE w7 B.anew.box true) := hWh
  unfold WhoE at hWh'
  simp only [if_true] at hWh'
  generalize B.anew.box = bx at hWh'
  have hres7 := ho7.heap HRES6.out (hnd _ (Nat.le_refl _))
  have HWH := Lib.hid hWh'
  have HD7 := Lib.hid hd7
  have HMD := Lib.hid hmd
  have HRES7 := Lib.hid hres7
  have HO7 := Lib.hid (HO6.out.trans ho7 (fun _ _ h => h))
  clear hd7 ht7 ho7 hmd hgd hE7 hWh hWh' hres7 d0 d1 d2 d3 d4 d5 HPG
  go_wp2_with fail
  refine HWH.out.mono ?_
  rintro e w8 ⟨A8, n8, c8, vs8, rfl, hr8, ha8, hb8⟩
  have hres8 := (hb8.block _ (Array.getElem?_eq_some_iff.1 HRES7.out).1).trans HRES7.out
  have HRES8 := Lib.hid hres8
  have HD8 := Lib.hid (HD7.out.below hb8)
  have HO8 := Lib.hid (HO7.out.trans (Only.of_below hb8 (DB g m)) (fun _ _ h => h))
  have r0 := cell_of_row w8 _ 0 _ _ _ hres8
  have r1 := cell_of_row w8 _ 1 _ _ _ hres8
  have r2 := cell_of_row w8 _ 2 _ _ _ hres8
  have r3 := cell_of_row w8 _ 3 _ _ _ hres8
  have rf : ∀ j, w8.frozen? ⟨w.heap.size, j, none⟩ = false := fun j => by simp [World.frozen?, HRES8.out]
  clear hr8 ha8 hb8 hres8 HWH
  unfold boxCells
  go_wp2_with fail
  obtain ⟨hh, ho9⟩ := res4 HRES8.out (.string bx.name) (.int .u32 (bx.epoch : Int)) (.int .u32 (bx.next : Int)) (.slice A8 n8 c8)
  have hnb : NoB w8 w.heap.size := NoB.cells HRES8.out (fun j x e => by
    rw [List.getElem?_toArray] at e
    rcases j with _ | _ | _ | _ | j <;> simp at e)
  have hd9 := HD8.out.only ho9 (fun q hq => hq ▸ hnb) (by omega) (by omega)
  have ho09 := HO8.out.trans ho9 (fun q hq e => by omega)
  try simp only [Exit.inBlock, Exit.then]
  refine bodyPost_ret (results_cell_tmp_row rfl _ _ w.heap.size 49 _ (0, 0) rfl hh row49 size49) rfl ?_
  exact ⟨bx.name, bx.epoch, bx.next, A8, n8, c8, F7, rfl, hd9, HMD.out, ho09⟩
end Go.Proofs.YtlhaempecidohaaGreatDoor
namespace Go.Proofs.YtlhaempecidohaaGreatDoor
open Go.RowKit
theorem MsgA.bytes {w : World} {A : Option Addr} {vs : List (List Value)} {ms : List Msg} (h : All2 (MsgA w A) vs ms) : ∀ m ∈ ms, ∀ y ∈ m.oct, y < 256 := fun m hm => by
  obtain ⟨i, hi⟩ := List.mem_iff_getElem?.1 hm
  obtain ⟨v, -, B, k, d, -, hr, -⟩ := h.at_ hi
  exact hr.2.1
theorem octS_oct : ∀ {a b : List Msg}, a.map (·.oct) = b.map (·.oct) → octS a = octS b := fun {a b} h => by
  unfold octS
  have e : ∀ l : List Msg, (l.map fun m => m.oct.length) = (l.map (·.oct)).map List.length := fun l => by rw [List.map_map]; rfl
  rw [e, e, h]
theorem uidsOf_length : ∀ (l : List Msg) (n : Nat), (uidsOf n l).length = l.length
  | [], _ => rfl
  | _ :: l, n => by show (uidsOf (n + 1) l).length + 1 = _; rw [uidsOf_length l]; rfl
/-- a mailbox of a store, as Load hands it back -/
structure LoadedS (w : World) (bs : Boxes) (nm : ByteArray) (n : Nat) (b : BoxSt) (bx : BoxS) : Prop where
  mem : (n, b) ∈ bs
  box : bx = b.box
  name : b.l.name = nm
  bname : bx.name = nm
  right : rightBox bx = true
  wf : bx.wf
  log : (logB b.ns).length ≤ 1048576
  load : ∀ w' gs g m mm cap F, StoreS w' gs g m mm cap F bs → Env w' → nm.size ≤ 1000000 → Calls Tryz.prog 67 #[.pointer (some ⟨gs, 0, none⟩), .string nm] w' (LoadE w' (some bx))
theorem StoreS.loaded {w : World} {gs g m mm cap : Nat} {F : DiskF} {bs : Boxes} (h : StoreS w gs g m mm cap F bs) (hroom : F.total ≤ 1048576) {nm : ByteArray} {n : Nat} (hn : numOf bs nm = some n) : ∃ b bx, LoadedS w bs nm n b bx := by
  obtain ⟨b, hb, hname⟩ := numOf_some hn
  have hwh := h.rest.good.whole _ hb
  refine ⟨b, b.box, hb, rfl, hname, hname, hwh.right, hwh.boxwf, Nat.le_trans (Good.log_le (w := w) (g := g) (m := m) (cap := cap) h.rest.good hb) hroom, fun w' gs g m mm cap F hS hE hs => ?_⟩
  exact load_any hS nm hs hE (some b.box) (fun n' h' => by rw [hn] at h'; injection h' with h'; subst h'; exact ⟨b, hb, rfl⟩) (fun h' => by rw [hn] at h'; cases h')
set_option maxRecDepth 10000 in
set_option maxHeartbeats 8000000 in
theorem scopy_any {w : World} {gs g m mm cap : Nat} {F : DiskF} {bs : Boxes} (h : StoreS w gs g m mm cap F bs) (hE : Env w) (hroom : F.total ≤ 1048576) (nf nt : ByteArray) (hsf : nf.size ≤ 1000000) (hst : nt.size ≤ 1000000) (U : Option Addr) (un uc : Nat) (us : List Nat)
    (hu : UR w U un us) (hun : un ≤ 1000000000) :
    Calls Tryz.prog 24 #[.pointer (some ⟨gs, 0, none⟩), .string nf, .string nt, .slice U un uc] w (ListE w gs g m mm cap F) := by
  have H := Lib.hid h
  have HE := Lib.hid hE
  have HU := Lib.hid hu
  have HRO := Lib.hid hroom
  have hlt := h.lts
  have HN1 := Lib.hid (number_any h nf hsf)
  have HN2 := Lib.hid (number_any h nt hst)
  have HSF := Lib.hid hsf
  have HST := Lib.hid hst
  clear h hE hu hroom hsf hst
  cases hf : numOf bs nf with
  | none =>
    rw [hf] at HN1
    unfold numI at HN1
    clear hf
    go_enter Tryz.func24, Tryz.ntmps24
    go_wp2_with fail
    refine HN1.out.mono ?_
    rintro e w1 ⟨rfl, rfl⟩
    go_wp2_with fail
    go_ret2
    exact ⟨⟨none, 0, 0, 7, rfl⟩, DidS.of_below H.out (Below.refl _ _)⟩
  | some n1 =>
  cases ht : numOf bs nt with
  | none =>
    rw [hf] at HN1
    rw [ht] at HN2
    unfold numI at HN1 HN2
    have hn0 : ¬ ((n1 : Int) < 0) := by omega
    clear hf ht
    go_enter Tryz.func24, Tryz.ntmps24
    go_wp2_with fail
    refine HN1.out.mono ?_
    rintro e w1 ⟨rfl, rfl⟩
    go_wp2_with fail
    refine HN2.out.mono ?_
    rintro e w1 ⟨rfl, rfl⟩
    go_wp2_with fail
    go_ret2
    exact ⟨⟨none, 0, 0, 7, rfl⟩, DidS.of_below H.out (Below.refl _ _)⟩
  | some n2 =>
    obtain ⟨bF, xF, hLF⟩ := H.out.loaded HRO.out hf
    obtain ⟨bT, xT, hLT⟩ := H.out.loaded HRO.out ht
    rw [hf] at HN1
    rw [ht] at HN2
    unfold numI at HN1 HN2
    have hn1 : ¬ ((n1 : Int) < 0) := by omega
    have hn2 : ¬ ((n2 : Int) < 0) := by omega
    have HLF := Lib.hid hLF
    have HLT := Lib.hid hLT
    have HLD1 := Lib.hid (hLF.load w gs g m mm cap F H.out HE.out HSF.out)
    have hnxT := hLT.wf.next
    have hepT := hLT.wf.epoch
    clear hf ht hLF hLT
    go_enter Tryz.func24, Tryz.ntmps24
    go_wp2_with fail
    refine HN1.out.mono ?_
    rintro e w1 ⟨rfl, hw1⟩
    rw [hw1]
    clear hw1 w1
    go_wp2_with fail
    refine HN2.out.mono ?_
    rintro e w1' ⟨rfl, hw1⟩
    rw [hw1]
    clear hw1 w1'
    go_wp2_with fail
    refine HLD1.out.mono ?_
    rintro e w1 hE1
    unfold LoadE at hE1
    obtain ⟨A1, m1, c1, vs1, rfl, hro1, hal1, hb1⟩ := hE1
    obtain ⟨w2, hw2⟩ : ∃ w2, w2 = w1.alloc (.cells (boxCells xF.name xF.epoch xF.next (.slice A1 m1 c1)).toArray 49) := ⟨_, rfl⟩
    have hb12 : Below w1.heap.size w1 w2 := by rw [hw2]; exact (Below.refl _ _).alloc (Nat.le_refl _) _
    have hg10 : w2.heap[w1.heap.size]? = some (.cells (boxCells xF.name xF.epoch xF.next (.slice A1 m1 c1)).toArray 49 (0, 0)) := by rw [hw2]; exact heap_alloc_new w1 _
    have hb02 := hb1.trans (hb12.mono hb1.size)
    have hLD2 := HLT.out.load w2 gs g m mm cap F (H.out.below hb02) (HE.out.below hb02) HST.out
    unfold boxCells at hw2 hg10
    have HLD2 := Lib.hid hLD2
    have HW2 := Lib.hid hw2
    have HB2 := Lib.hid hb02
    have HG10 := Lib.hid hg10
    have HRO1 := Lib.hid (hro1.below hb12).read
    have HAL1 := Lib.hid (hal1.mono (MsgA.below hb12))
    clear hro1 hal1 hb1 hw2 hb12 hg10 hb02 hLD2 HLD1
    unfold boxCells
    go_upto_region 4 with fail
    rw [← HW2.out]
    go_wp2_with fail
    refine HLD2.out.mono ?_
    rintro e w3 hE3
    unfold LoadE at hE3
    obtain ⟨A3, m3, c3, vs3, rfl, hro3, hal3, hb3⟩ := hE3
    obtain ⟨w4, hw4⟩ : ∃ w4, w4 = w3.alloc (.cells (boxCells xT.name xT.epoch xT.next (.slice A3 m3 c3)).toArray 49) := ⟨_, rfl⟩
    have hb34 : Below w3.heap.size w3 w4 := by rw [hw4]; exact (Below.refl _ _).alloc (Nat.le_refl _) _
    have hg12 : w4.heap[w3.heap.size]? = some (.cells (boxCells xT.name xT.epoch xT.next (.slice A3 m3 c3)).toArray 49 (0, 0)) := by rw [hw4]; exact heap_alloc_new w3 _
    have hb24 := hb3.trans (hb34.mono hb3.size)
    have hb04 := HB2.out.trans (hb24.mono HB2.out.size)
    have hg10 := (hb24.block _ (Array.getElem?_eq_some_iff.1 HG10.out).1).trans HG10.out
    have hCP := copy_any xF.name xT.name xF.epoch xF.next xT.epoch xT.next A1 A3 U m1 c1 m3 c3 un uc vs1 vs3 xF.msgs xT.msgs us w4 HLF.out.right HLT.out.right hnxT (HRO1.out.below hb24) ((HAL1.out.mono MsgA.r).mono (MsgR.below hb24)) (hro3.below hb34).read ((hal3.mono MsgA.r).mono (MsgR.below hb34)) (HU.out.below0 hb04) hun (HE.out.below hb04)
    unfold boxCells at hw4 hg12 hCP
    have HCP := Lib.hid hCP
    have HW4 := Lib.hid hw4
    have HB4 := Lib.hid hb04
    have f0 : w4.cell? ⟨w1.heap.size, 0, none⟩ = some (.string xF.name) := cell_of_row w4 _ 0 _ _ _ hg10
    have f1 : w4.cell? ⟨w1.heap.size, 1, none⟩ = some (.int .u32 (xF.epoch : Int)) := cell_of_row w4 _ 1 _ _ _ hg10
    have f2 : w4.cell? ⟨w1.heap.size, 2, none⟩ = some (.int .u32 (xF.next : Int)) := cell_of_row w4 _ 2 _ _ _ hg10
    have f3 : w4.cell? ⟨w1.heap.size, 3, none⟩ = some (.slice A1 m1 c1) := cell_of_row w4 _ 3 _ _ _ hg10
    have t0 : w4.cell? ⟨w3.heap.size, 0, none⟩ = some (.string xT.name) := cell_of_row w4 _ 0 _ _ _ hg12
    have t1 : w4.cell? ⟨w3.heap.size, 1, none⟩ = some (.int .u32 (xT.epoch : Int)) := cell_of_row w4 _ 1 _ _ _ hg12
    have t2 : w4.cell? ⟨w3.heap.size, 2, none⟩ = some (.int .u32 (xT.next : Int)) := cell_of_row w4 _ 2 _ _ _ hg12
    have t3 : w4.cell? ⟨w3.heap.size, 3, none⟩ = some (.slice A3 m3 c3) := cell_of_row w4 _ 3 _ _ _ hg12
    clear hro3 hal3 hb3 hw4 hb34 hg12 hb24 hb04 hg10 hCP HLD2
    unfold boxCells
    go_upto_region 7 with fail
    rw [← HW4.out]
    go_wp2_with fail
    refine HCP.out.mono ?_
    rintro e w5 hE5
    unfold CopE at hE5
    rcases hE5 with ⟨v', z, hz, rfl, hb5⟩ | ⟨ps, A5, n5, c5, vs5, G, k, kc, hok, hnx5, hoct, rfl, hro5, hal5, hgr5, hb5⟩
    · have hz' : (z != 0) = true := by simpa using hz
      have HB5 := Lib.hid (HB4.out.trans (hb5.mono HB4.out.size))
      clear hz hb5 f0 f1 f2 f3 t0 t1 t2 t3
      go_wp2_with fail
      go_ret2
      exact ⟨⟨none, 0, 0, z, rfl⟩, DidS.of_below H.out (HB5.out.alloc HB5.out.size _)⟩
    · have hbT : (⟨xT.name, xT.epoch, xT.next, xT.msgs⟩ : BoxS) = xT := rfl
      rw [hbT] at hok hnx5 hal5 hgr5 ⊢
      clear hbT
      dsimp only
      have hright := addAll_right ps HLT.out.right hok
      obtain ⟨ms, hml, hmo, hmf⟩ := addAll_came ps HLT.out.right hok
      obtain ⟨an1, an2⟩ := addAll_name ps xT
      have hkl : ps.length = k := by have := hgr5.len; rw [List.length_map, uidsOf_length] at this; exact this
      have hn5 : n5 = (addAll xT ps).msgs.length := by rw [← hal5.length]; exact hro5.len.symm
      have h500 : n5 ≤ 500 := by rw [hn5]; exact (rightBox_parts hright).2.2.2.1
      have hk500 : k ≤ 500 := by
        have h1 := (rightBox_parts hright).2.2.2.1
        have h2 : ∀ (l : List Msg) (b : BoxS), (addAll b l).msgs.length = b.msgs.length + l.length := fun l => by
          induction l with
          | nil => intro b; rfl
          | cons a l ih =>
            intro b
            show (addAll (addS b a) l).msgs.length = _
            rw [ih]
            show (b.msgs ++ [_]).length + l.length = _
            rw [List.length_append, List.length_singleton, List.length_cons]
            omega
        rw [h2] at h1
        omega
      have hms : ∀ y ∈ ms, y ∈ (addAll xT ps).msgs := fun y hy => by
        have h1 : some y ∈ ms.map some := List.mem_map.2 ⟨y, hy, rfl⟩
        rw [← hmf] at h1
        obtain ⟨u, -, hu⟩ := List.mem_map.1 h1
        exact List.mem_of_find?_eq_some hu
      have hbyt := MsgA.bytes hal5
      have huid : ∀ y ∈ (addAll xT ps).msgs, y.uid < 4294967296 := fun y hy => by
        have := (boxFrom_lt (rightBox_parts hright).2.2.2.2 _ hy).2.1
        omega
      have hfit : ∀ y ∈ ms.map (cameN xT.name xT.epoch), y.fits := fun y hy => by
        obtain ⟨x, hx, rfl⟩ := List.mem_map.1 hy
        have := came_fits hright (by omega) (by rw [an2]; exact hepT) (hms x hx) (hbyt x (hms x hx))
        rw [an1, an2] at this
        exact this
      have hn60 := named_size (rightBox_parts HLT.out.right).1
      have hlen : (logB (ms.map (cameN xT.name xT.epoch))).length ≤ 1200000 := by
        have h1 := logB_bound (ms.map (cameN xT.name xT.epoch)) (fun y hy => by obtain ⟨x, hx, rfl⟩ := List.mem_map.1 hy; exact hn60)
        have h2 : (ms.map (cameN xT.name xT.epoch)).map (·.msg) = ms := by rw [List.map_map]; exact List.map_id' ms
        rw [h2, octS_oct hmo, List.length_map, hml, hkl] at h1
        have h3 : octS xF.msgs ≤ 1048576 := by
          rw [HLF.out.box]
          exact Nat.le_trans (boxst_oct bF) HLF.out.log
        omega
      obtain ⟨NX, hNX⟩ : ∃ NX, (addAll xT ps).next = NX := ⟨_, rfl⟩
      rw [hNX]
      obtain ⟨w6, hw6⟩ : ∃ w6, w6 = w5.alloc (.cells (boxCells xT.name xT.epoch NX (.slice A5 n5 c5)).toArray 49) := ⟨_, rfl⟩
      have hb56 : Below w5.heap.size w5 w6 := by rw [hw6]; exact (Below.refl _ _).alloc (Nat.le_refl _) _
      have hg13 : w6.heap[w5.heap.size]? = some (.cells (boxCells xT.name xT.epoch NX (.slice A5 n5 c5)).toArray 49 (0, 0)) := by rw [hw6]; exact heap_alloc_new w5 _
      have hb06 := HB4.out.trans ((hb5.trans (hb56.mono hb5.size)).mono HB4.out.size)
      have hal6 : All2 (MsgA w6 A5) vs5 (addAll xT ps).msgs := hal5.mono (MsgA.below hb56)
      have hCM : ∀ wx, Below w6.heap.size w6 wx → Calls Tryz.prog 70 #[.agg (boxCells xT.name xT.epoch NX (.slice A5 n5 c5)).toArray, .slice G k kc] wx (CameE wx xT.name xT.epoch ms) := fun wx hbx =>
        came_any xT.name xT.epoch NX A5 G n5 c5 k kc vs5 (addAll xT ps).msgs ms (uidsOf xT.next ps) wx ((hro5.below hb56).read.below hbx) (hal6.mono (MsgA.below hbx)) (by omega) ((hgr5.below hb56).read.below hbx) (by omega) hmf
      have hNT : ∀ wy A' c' vs', Below w6.heap.size w6 wy → RowR wy A' ms.length 7 vs' → All2 (NoteR wy) vs' (ms.map (cameN xT.name xT.epoch)) →
          Calls Tryz.prog 69 #[.pointer (some ⟨gs, 0, none⟩), .agg (boxCells xT.name xT.epoch NX (.slice A5 n5 c5)).toArray, .slice A' ms.length c'] wy fun e w' => ∃ z : Int, e = .returned (.int .i64 z) ∧ DidS wy gs g m mm cap F w' := fun wy A' c' vs' hby hr ha => by
        have hb0y := hb06.trans (hby.mono hb06.size)
        have hSy := H.out.below hb0y
        have hnt := note_any hSy (HE.out.below hb0y) HLT.out.mem xT.name (HLT.out.name.trans HLT.out.bname.symm) xT.epoch NX A5 n5 c5 vs5 (addAll xT ps).msgs ((hro5.below hb56).read.below hby) (MsgA.v (hal6.mono (MsgA.below hby)) huid) (by omega) A' ms.length c' vs' (ms.map (cameN xT.name xT.epoch)) hr ha (by omega)
          hfit (fun y hy => by obtain ⟨x, hx, rfl⟩ := List.mem_map.1 hy; exact .inr rfl) (by have := HLT.out.log; omega)
        exact hnt.mono (fun e w' hN => NotedE.did hSy HLT.out.mem hN (by omega))
      have hw5 : w.heap.size ≤ w5.heap.size := Nat.le_trans HB4.out.size hb5.size
      have hNSB : ¬ SB g m mm w5.heap.size := SB.no (by omega) (by omega) (by omega)
      unfold boxCells at hw6 hg13 hCM hNT
      have HCM := Lib.hid hCM
      have HNT := Lib.hid hNT
      have HW6 := Lib.hid hw6
      have HB6 := Lib.hid hb06
      have HNSB := Lib.hid hNSB
      have b0 : w6.cell? ⟨w5.heap.size, 0, none⟩ = some (.string xT.name) := cell_of_row w6 _ 0 _ _ _ hg13
      have b1 : w6.cell? ⟨w5.heap.size, 1, none⟩ = some (.int .u32 (xT.epoch : Int)) := cell_of_row w6 _ 1 _ _ _ hg13
      have b2 : w6.cell? ⟨w5.heap.size, 2, none⟩ = some (.int .u32 (NX : Int)) := cell_of_row w6 _ 2 _ _ _ hg13
      have b3 : w6.cell? ⟨w5.heap.size, 3, none⟩ = some (.slice A5 n5 c5) := cell_of_row w6 _ 3 _ _ _ hg13
      clear hro5 hal5 hgr5 hb5 hright hml hmo hmf an1 an2 hkl hn5 hms hbyt huid hfit hn60 hlen hw6 hb56 hg13 hb06 hal6 hCM hNT hNSB hNX hok hnx5 hoct f0 f1 f2 f3 t0 t1 t2 t3
      unfold boxCells
      go_upto_region 10 with fail
      rw [← HW6.out]
      by_cases hk0 : k = 0
      · subst hk0
        go_wp2_with fail
        go_ret2
        exact ⟨⟨none, 0, 0, 0, rfl⟩, DidS.of_below H.out HB6.out⟩
      · have hkz : ((k : Int) == 0) = false := by rw [beq_eq_false_iff_ne]; omega
        have HDR : Hid (Below w6.heap.size w6 w6.drew) := (Below.refl w6.heap.size w6).drew
        go_wp2_with fail
        go_region_held (fun w' => w'.cell? ⟨w5.heap.size, 0, none⟩ = some (.string xT.name) ∧ w'.cell? ⟨w5.heap.size, 1, none⟩ = some (.int .u32 (xT.epoch : Int)) ∧ w'.cell? ⟨w5.heap.size, 2, none⟩ = some (.int .u32 (NX : Int)) ∧ w'.cell? ⟨w5.heap.size, 3, none⟩ = some (.slice A5 n5 c5))
          (exact ⟨b0, b1, b2, b3⟩)
          (first
            | (go_at_call 70; refine (HCM.out _ HDR.out).mono ?_; rintro e wc ⟨A8, c8, vs8, rfl, hr8, ha8, hb8⟩; have hb68 := HDR.out.trans (hb8.mono HDR.out.size); have HR8 := Lib.hid hr8.read; have HA8 := Lib.hid ha8; have HB68 := Lib.hid hb68; have b0 := cell_later hb68 b0; have b1 := cell_later hb68 b1; have b2 := cell_later hb68 b2; have b3 := cell_later hb68 b3; clear hr8 ha8 hb8 hb68)
            | (go_at_call 69; refine (HNT.out _ A8 c8 vs8 HB68.out HR8.out HA8.out).mono ?_; rintro e wd ⟨z, rfl, hdid⟩; have b0 := hdid.choose_spec.choose_spec.2.2.cell b0 HNSB.out; have b1 := hdid.choose_spec.choose_spec.2.2.cell b1 HNSB.out; have b2 := hdid.choose_spec.choose_spec.2.2.cell b2 HNSB.out; have b3 := hdid.choose_spec.choose_spec.2.2.cell b3 HNSB.out; have HDID := Lib.hid (hdid.more (HB6.out.trans (HB68.out.mono HB6.out.size))); clear hdid))
        all_goals
          by_cases hzz : z = 0
          · subst hzz
            go_wp2_with fail
            go_ret2
            exact ⟨⟨G, k, kc, 0, rfl⟩, HDID.out⟩
          · have hzz' : (z != 0) = true := by simpa using hzz
            go_wp2_with fail
            go_ret2
            exact ⟨⟨none, 0, 0, z, rfl⟩, HDID.out⟩
end Go.Proofs.YtlhaempecidohaaGreatDoor
namespace Go.Proofs.YtlhaempecidohaaGreatDoor
open Go.RowKit
/-- a disk of which logs, pages, the tree may stand aside -/
structure Chk (F0 F : DiskF) (bs : Boxes) (x : Option (List Nat)) (B : BoxSt) : Prop where
  good : Good F bs x
  mem : (0, B) ∈ bs
  idx0 : AL.get F (badN (idxN 0)) = none
  tree : AL.get F treeN = AL.get F0 treeN
  badt : AL.get F (badN treeN) = none
  pages : ∀ n < 16, AL.get F (badN (idxN n)) = none ∧ AL.get F (badN (flgN n)) = none
  logs : ∀ n ∈ bs.nums, AL.get F (badN (logN n)) = none
  tot : F.total = F0.total
theorem Chk.less {F0 F F' : DiskF} {bs : Boxes} {x : Option (List Nat)} {B : BoxSt} (h : Chk F0 F bs x B) {n : Nat} (hn : n ∈ bs.nums) (h0 : n ≠ 0) (h16 : n < 16) (hm : Moved F F' (logN n) (badN (logN n))) (hF : (AL.keys F).Nodup) (hF' : (AL.keys F').Nodup) : Chk F0 F' (bs.less n) x B := by
  have hin := names_in
  have hb16 : (0 : Nat) < 16 := by decide
  have ha := names_apart n h16
  obtain ⟨f, hf⟩ : ∃ f, AL.get F (logN n) = some f := by
    obtain ⟨p, hp, rfl⟩ := List.mem_map.1 hn
    exact ⟨_, h.good.log p hp⟩
  refine ⟨h.good.less h0 h16 hm, less_mem.2 ⟨h.mem, fun e => h0 e.symm⟩, ?_, ?_, ?_, fun k hk => ⟨?_, ?_⟩, fun k hk => ?_, ?_⟩
  · rw [hm.bad (hin n h16).1 (fun e => (names_inj n h16 0 hb16).2.2.2.1 e.symm)]; exact h.idx0
  · rw [hm.stays tree_in (fun e => ha.1 e.symm)]; exact h.tree
  · rw [hm.bad (hin n h16).1 (fun e => ha.1 e.symm)]; exact h.badt
  · rw [hm.bad (hin n h16).1 (fun e => (names_inj n h16 k hk).2.2.2.1 e.symm)]; exact (h.pages k hk).1
  · rw [hm.bad (hin n h16).1 (fun e => (names_inj n h16 k hk).2.2.2.2.1 e.symm)]; exact (h.pages k hk).2
  · obtain ⟨h1, h2⟩ := less_nums.1 hk
    obtain ⟨p, hp, rfl⟩ := List.mem_map.1 h1
    rw [hm.bad (hin n h16).1 (fun e => h2 ((names_inj _ (h.good.few p hp) n h16).1 e))]
    exact h.logs _ h1
  · rw [hm.total hF hF' (fun e => bad_ne (hin n h16).1 e.symm) hf (h.logs n hn)]; exact h.tot
theorem fld87e (s : ByteArray) (ep : Int) (c d e f : Value) (w : World) : (Instr.field 87 (.agg #[.string s, .int .u32 ep, c, d, e, f]) 1).run Tryz.prog w = .ok (.int .u32 ep) w := by kernel_rfl
theorem MapK.more {w : World} {b n m : Nat} (h : MapK w b n) (hm : m ≠ 0) : MapK w b m := by
  obtain ⟨es, clock, h1, h2, _⟩ := h
  exact ⟨es, clock, h1, h2, fun e => absurd e hm⟩
/-- what same hands back -/
def SameE (w : World) (g m cap : Nat) (F0 : DiskF) (x : Option (List Nat)) (B : BoxSt) (e : Ending) (w' : World) : Prop :=
  e = .returned (.int .i64 0) ∧ ∃ F' bs', DiskS w' g m cap F' ∧ Chk F0 F' bs' x B ∧ Only (DB g m) w w'
set_option maxRecDepth 10000 in
set_option maxHeartbeats 8000000 in
theorem csame_any {w : World} {g m cap : Nat} {F0 F : DiskF} {bs : Boxes} {x : Option (List Nat)} {B : BoxSt} (h : DiskS w g m cap F) (hC : Chk F0 F bs x B) (hE : Env w) (hg9 : 9 ≤ g ∧ 9 ≤ m) :
    Calls Tryz.prog 31 #[.agg #[.pointer (some ⟨g, 0, none⟩)]] w (SameE w g m cap F0 x B) := by
  have hmk : ∀ w, (Instr.makeMap 137 none).run Tryz.prog w = .ok (.map (some w.heap.size)) (w.alloc (.map #[] 0)) := fun w => by kernel_rfl
  obtain ⟨ws, hws⟩ : ∃ ws, ws = (w.alloc (.cells #[.pointer (some ⟨g, 0, none⟩)] 82)).alloc (.map #[] 0) := ⟨_, rfl⟩
  have hbs : Below w.heap.size w ws := by rw [hws]; exact ((Below.refl _ _).alloc (Nat.le_refl _) _).alloc (by simp) _
  have hg1 : ws.heap[w.heap.size]? = some (.cells #[.pointer (some ⟨g, 0, none⟩)] 82 (0, 0)) := by
    rw [hws, Below.heap_alloc _ _ _ (by simp)]; exact heap_alloc_new w _
  have hmm : MapK ws (w.heap.size + 1) 0 := by
    rw [hws]
    have := MapK.made (w.alloc (.cells #[.pointer (some ⟨g, 0, none⟩)] 82))
    rwa [World.size_alloc] at this
  have hgm := h.lt
  have hws2 : ws.heap.size = w.heap.size + 2 := by rw [hws]; simp
  have HLO := Lib.hid (Good.logs_any (h.below hbs) hC.good (hE.below hbs))
  have HC := Lib.hid hC
  have HD := Lib.hid (h.below hbs)
  have HE := Lib.hid (hE.below hbs)
  have HBS := Lib.hid hbs
  have HWS := Lib.hid hws
  have HG1 := Lib.hid hg1
  have HMM := Lib.hid hmm
  have HG9 := Lib.hid hg9
  have HS2 : Hid (ws.heap.size = w.heap.size + 2) := hws2
  have hbl := hC.good.len
  have c0 := cell_of_row ws _ 0 _ _ _ hg1
  clear h hC hE hbs hws hg1 hmm hg9 hws2
  go_enter Tryz.func31, Tryz.ntmps31
  go_upto_region 2 with fail
  rw [← HWS.out]
  clear hmk
  go_wp2_with fail
  refine HLO.out.mono ?_
  rintro e w1 ⟨A, n, c, rfl, hr, hb1⟩
  have hn : bs.nums.length = n := by have := hr.len; rwa [List.length_map] at this
  have hn16 : n ≤ 16 := by rw [← hn]; unfold Boxes.nums; rw [List.length_map]; exact hbl
  have HRL : Hid (∀ q, blk A = some q → ws.heap.size ≤ q) := fun q hq => (hr.lt q hq).1
  have HR := Lib.hid hr.read
  have HB1 := Lib.hid hb1
  have HN : Hid (bs.nums.length = n) := hn
  clear hr hb1 hn c0 HLO
  obtain ⟨NS, hNS⟩ : ∃ NS, bs.nums = NS := ⟨_, rfl⟩
  rw [hNS] at HR HN
  have HNS : Hid (bs.nums = NS) := hNS
  clear hNS
  go_wp2_with fail
  go_loopw [17] (fun v17 wr => ∃ (i : Nat) (Fi : DiskF) (bi : Boxes), i ≤ n ∧ v17 = .int .i64 (i : Int) ∧ DiskS wr g m cap Fi ∧ Chk F0 Fi bi x B ∧ (∀ k ∈ NS.drop i, k ∈ bi.nums) ∧ MapK wr (w.heap.size + 1) i ∧ Only (fun q => DB g m q ∨ q = w.heap.size + 1) w1 wr) (fun v17 _ => n - (intOf v17).toNat)
  case atStart => exact ⟨0, F, bs, Nat.zero_le _, rfl, HD.out.below HB1.out, HC.out, fun k hk => by rw [HNS.out]; exact hk, HMM.out.below HB1.out, Only.refl _ _⟩
  case round =>
    obtain ⟨i, Fi, bi, hi, rfl, hdi, hci, hdr, hmi, hoi⟩ := hrel
    have hnd : ∀ q, (q = w.heap.size ∨ ws.heap.size ≤ q) → ¬ (DB g m q ∨ q = w.heap.size + 1) := fun q hq e => by
      have h2 := HS2.out
      rcases e with (e | e) | e <;> rcases hq with h | h <;> omega
    have HND := Lib.hid hnd
    by_cases hlt : i < n
    · obtain ⟨gA, k, rfl, hk, hck⟩ := (HR.out.only hoi (fun q hq => HND.out q (.inr (HRL.out q hq)))).map hlt
      have hcell : wr.cell? ⟨gA, i, none⟩ = some (.int .i64 (k : Int)) := by have := hck 0 _ rfl; rwa [Nat.mul_one, Nat.add_zero] at this
      have hkd : k ∈ NS.drop i := by
        obtain ⟨h1, h2⟩ := List.getElem?_eq_some_iff.1 hk
        rw [List.drop_eq_getElem_cons h1, h2]
        exact List.mem_cons_self
      have hkb := hdr k hkd
      obtain ⟨p, hp, hpk⟩ := List.mem_map.1 hkb
      have hk16 : k < 16 := by rw [← hpk]; exact hci.good.few p hp
      have hwh : Whole p.2.ns p.2.f := hci.good.whole p hp
      have hlog : AL.get Fi (logN k) = some (safeF (logB p.2.ns)) := by rw [← hpk]; exact hci.good.log p hp
      have hk0 : i = 0 → k = 0 := fun e => by
        subst e
        obtain ⟨b0, r, e1, -⟩ := HC.out.good.first
        have e2 := HNS.out
        rw [e1] at e2
        rw [← e2] at hk
        simp [Boxes.nums] at hk
        exact hk.symm
      have hin0 : i ≠ 0 → k ≠ 0 := fun e e2 => by
        have hup := HC.out.good.up
        rw [HNS.out, List.pairwise_iff_getElem] at hup
        obtain ⟨h1, h2⟩ := List.getElem?_eq_some_iff.1 hk
        have := hup 0 i (by omega) h1 (by omega)
        omega
      obtain ⟨r1, -, -⟩ := names_right k hk16
      have hll : (logB p.2.ns).length ≤ 4194304 := by have := total_get hlog; have := hdi.fits; have := hdi.most; have e : (safeF (logB p.2.ns)).b.length = (logB p.2.ns).length := rfl; omega
      have hEr : Env wr := (HE.out.below HB1.out).only hoi (fun q e => by have := HG9.out; have := HS2.out; rcases e with (e | e) | e <;> omega)
      have hep : ¬ (readS p.2.ns).epoch = 0 := by have := hwh.parts.2.1; omega
      have HRD : Hid (∀ w', Below wr.heap.size wr w' → Calls Tryz.prog 9 #[.pointer (some ⟨g, 0, none⟩), .string (logN k)] w' (GotB w' (logB p.2.ns))) := fun w' hb => read_yes (hdi.below hb) (right_size r1) hlog
      have HF1 : Hid (∀ w, Calls Tryz.prog 75 #[.string ⟨#[108, 111, 103]⟩, .int .i64 (k : Int)] w fun e w' => e = .returned (.string (logN k)) ∧ w' = w) := fun w => cfile_any ⟨#[108, 111, 103]⟩ (logN k) (by decide) k hk16 (logN_lit k hk16) w
      have HAS : Hid (∀ w', Below wr.heap.size wr w' → Calls Tryz.prog 77 #[.pointer (some ⟨g, 0, none⟩), .string (logN k)] w' (AsideE w' g m cap Fi (logN k))) := fun w' hb => aside_any (hdi.below hb) hci.good.names (names_in k hk16).1 hlog (hci.logs k hkb)
      have hbox := hoi.heap ((HB1.out.block _ (Array.getElem?_eq_some_iff.1 HG1.out).1).trans HG1.out) (HND.out _ (.inl rfl))
      have c0 := cell_of_row wr _ 0 _ _ _ hbox
      have HBOX := Lib.hid hbox
      have HDI := Lib.hid hdi
      have HCI := Lib.hid hci
      have HDRP := Lib.hid hdr
      have HMI := Lib.hid hmi
      have HOI := Lib.hid hoi
      have HFM := Lib.hid hwh.formed
      have HER := Lib.hid hEr
      have HKB := Lib.hid hkb
      have HK0 := Lib.hid hk0
      have HI0 := Lib.hid hin0
      have HKT := Lib.hid hk
      have HEP := Lib.hid hep
      have HDR0 : Hid (Below wr.heap.size wr wr.drew) := (Below.refl _ _).drew
      clear hdi hci hdr hmi hoi hnd hk hck hkd hkb hp hwh hlog hk0 hin0 r1 hEr hbox hep
      go_upto_region 5 with fail
      go_region_held (fun w' => w'.cell? ⟨w.heap.size, 0, none⟩ = some (.pointer (some ⟨g, 0, none⟩)))
        (exact c0)
        (first
          | (go_at_call 75; refine (HF1.out _).mono ?_; rintro e wq ⟨rfl, rfl⟩)
          | (go_at_call 9; refine (HRD.out _ HDR0.out).mono ?_; rintro e w3 ⟨A3, c3, rfl, hown3, hb3⟩; have hbr3 := HDR0.out.trans (hb3.mono HDR0.out.size); have HOW3 := Lib.hid hown3; have HB3 := Lib.hid hbr3; have c0 := cell_later hbr3 c0; clear hown3 hb3 hbr3))
      all_goals
        go_wp2_with fail
        refine (digest_any A3 (logB p.2.ns).length c3 (logB p.2.ns) w3 HOW3.out.read (by omega)).mono ?_
        rintro e w4 ⟨rfl, hb4⟩
        obtain ⟨D, hD⟩ : ∃ D, D = Sha.digest (logB p.2.ns) := ⟨_, rfl⟩
        have hDl : D.length = 32 := by rw [hD]; exact Sha.digest_len _
        obtain ⟨key, hkey⟩ := digKey D hDl (by rw [hD]; exact Sha.digest_lt _)
        rw [← hD]
        obtain ⟨z, hz⟩ : ∃ z, z = List.replicate 32 0 := ⟨_, rfl⟩
        have hzl : z.length = 32 := by rw [hz]; simp
        obtain ⟨w5, hw5, hs5, hB5, hA5⟩ := lay w4 .u8 138 z
        obtain ⟨w6, hw6, hs6, hB6, hA6, hO6⟩ := putrow D hA5
        have hB46 : Below w4.heap.size w4 w6 := hB5.trans hB6
        have hbr6 := HB3.out.trans ((hb4.trans (hB46.mono hb4.size)).mono HB3.out.size)
        have hb36 := hb4.trans (hB46.mono hb4.size)
        obtain ⟨zv, okb, hlk, hz0⟩ := (HMI.out.below hbr6).look hkey
        have c06 := cell_later hbr6 (cell_of_row wr _ 0 _ _ _ HBOX.out)
        have HZ := Lib.hid hz
        have HW5 := Lib.hid hw5
        have HW6 := Lib.hid hw6
        have HA5 := Lib.hid hA5
        have HA6 := Lib.hid hA6
        have HDL : Hid (D.length = 32) := hDl
        have HZL : Hid (z.length = 32) := hzl
        have HBR6 := Lib.hid hbr6
        have HB36 := Lib.hid hb36
        have HKEY := Lib.hid hkey
        have HZ0 := Lib.hid hz0
        clear hb4 hD hDl hkey hz hzl hw5 hs5 hB5 hA5 hw6 hs6 hB6 hA6 hO6 hB46 hbr6 hb36 hz0 c0
        cases okb
        · go_wp2_with (first
            | (refine wpList_alloc_ar rfl 138 rfl .u8 32 z138 ?_; rw [← HZ.out, ← HW5.out])
            | (refine wpList_store_ar rfl 138 (.tmp 8) (.tmp 33) rfl rfl w4.heap.size rfl .u8 z D rfl HA5.out (by rw [HZL.out]; exact s138) (by rw [HZL.out, HDL.out]) ?_; rw [← HW6.out])
            | (refine wpList_load_ar rfl 138 (.tmp 8) rfl w4.heap.size rfl .u8 D HA6.out 32 5 y138 (by rw [HDL.out]; exact s138) ?_))
          refine (read_any A3 (logB p.2.ns).length c3 p.2.ns w6 HFM.out (HOW3.out.read.below HB36.out) HOW3.out.le (by omega) (HER.out.below HBR6.out)).mono ?_
          rintro e w7 ⟨A7, n7, c7, vs7, rfl, -, -, hb7⟩
          have hbr7 := HBR6.out.trans (hb7.mono HBR6.out.size)
          obtain ⟨w8, hst, hm8, ho8⟩ := (HMI.out.below hbr7).store HKEY.out (k : Int) (i + 1) (by omega)
          have hfd := fun (w : World) => fld87e (readS p.2.ns).name ((readS p.2.ns).epoch : Int) (.int .u32 ((readS p.2.ns).next : Int)) (.slice A7 n7 c7) (.int .i64 ((logB p.2.ns).length : Int)) (.bool (cleanS (readS p.2.ns))) w
          have he0 : (((readS p.2.ns).epoch : Int) == 0) = false := by rw [beq_eq_false_iff_ne]; have := HEP.out; omega
          have HA7 := Lib.hid (HA6.out.below hb7)
          have HBR7 := Lib.hid hbr7
          have HM8 := Lib.hid hm8
          have HO8 := Lib.hid ho8
          clear hb7 hbr7 hm8 ho8 hlk c06
          unfold logCells
          go_wp2_with (refine wpList_load_ar rfl 138 (.tmp 8) rfl w4.heap.size rfl .u8 D HA7.out 32 5 y138 (by rw [HDL.out]; exact s138) ?_)
          have hnb : ∀ q, q = w.heap.size + 1 → NoB w7 q := fun q e => by rw [e]; exact (HMI.out.below HBR7.out).noB
          refine ⟨⟨i + 1, Fi, bi, hlt, by first | rfl | (congr 1), (HDI.out.below HBR7.out).only HO8.out hnb (by omega) (by omega), HCI.out, fun q hq => ?_, HM8.out, ?_⟩, by simp [intOf]; omega⟩
          · exact HDRP.out q (by rw [← List.drop_drop] at hq; exact List.mem_of_mem_drop hq)
          · exact (HOI.out.trans (Only.of_below HBR7.out _) (fun _ _ h => h)).trans HO8.out (fun q _ e => .inr e)
        · have hi0 : i ≠ 0 := fun e => by have := HZ0.out e; cases this
          have HK00 := Lib.hid (HI0.out hi0)
          clear hi0
          go_upto_region 11 with (first
            | (refine wpList_alloc_ar rfl 138 rfl .u8 32 z138 ?_; rw [← HZ.out, ← HW5.out])
            | (refine wpList_store_ar rfl 138 (.tmp 8) (.tmp 33) rfl rfl w4.heap.size rfl .u8 z D rfl HA5.out (by rw [HZL.out]; exact s138) (by rw [HZL.out, HDL.out]) ?_; rw [← HW6.out])
            | (refine wpList_load_ar rfl 138 (.tmp 8) rfl w4.heap.size rfl .u8 D HA6.out 32 5 y138 (by rw [HDL.out]; exact s138) ?_))
          clear hlk
          have HBR6' : Hid (Below wr.heap.size wr w6.drew) := HBR6.out.drew
          have c0 : w6.cell? ⟨w.heap.size, 0, none⟩ = some (.pointer (some ⟨g, 0, none⟩)) := c06
          clear c06
          have hgw : ¬ DB g m w.heap.size := fun e => by rcases e with e | e <;> omega
          have HGW := Lib.hid hgw
          clear hgw
          go_region_held (fun w' => w'.cell? ⟨w.heap.size, 0, none⟩ = some (.pointer (some ⟨g, 0, none⟩)))
            (exact c0)
            (first
              | (go_at_call 75; refine (HF1.out _).mono ?_; rintro e wq ⟨rfl, rfl⟩)
              | (go_at_call 77; refine (HAS.out _ HBR6'.out).mono ?_; rintro e w7 ⟨rfl, F7, hd7, hm7, ho7⟩; have c0 := ho7.cell c0 HGW.out; have HD7 := Lib.hid hd7; have HM7 := Lib.hid hm7; have HO7 := Lib.hid ho7; clear hd7 hm7 ho7))
          all_goals
            go_wp2_with fail
            have hmn : ¬ DB g m (w.heap.size + 1) := fun e => by rcases e with e | e <;> omega
            refine ⟨⟨i + 1, F7, bi.less k, hlt, by first | rfl | (congr 1), HD7.out, HCI.out.less HKB.out HK00.out hk16 HM7.out HDI.out.nodup HD7.out.nodup, fun q hq => ?_, ?_, ?_⟩, by simp [intOf]; omega⟩
            · refine less_nums.2 ⟨HDRP.out q (by rw [← List.drop_drop] at hq; exact List.mem_of_mem_drop hq), fun e => ?_⟩
              have hup := HC.out.good.up
              rw [HNS.out, List.pairwise_iff_getElem] at hup
              obtain ⟨j, hj⟩ := List.mem_iff_getElem?.1 hq
              rw [List.getElem?_drop] at hj
              obtain ⟨h1, h2⟩ := List.getElem?_eq_some_iff.1 hj
              obtain ⟨h3, h4⟩ := List.getElem?_eq_some_iff.1 HKT.out
              have := hup i (i + 1 + j) h3 h1 (by omega)
              omega
            · exact (((HMI.out.below HBR6'.out).only HO7.out hmn)).more (by omega)
            · exact (HOI.out.trans (Only.of_below HBR6'.out _) (fun _ _ h => h)).trans HO7.out (fun q _ e => .inl e)
    · obtain rfl : i = n := by omega
      have HDI := Lib.hid hdi
      have HCI := Lib.hid hci
      have HOI := Lib.hid hoi
      clear hdi hci hdr hmi hoi hnd
      go_wp2_with fail
      go_ret
      refine ⟨rfl, Fi, bi, HDI.out, HCI.out, ?_⟩
      have hb := HBS.out.trans (HB1.out.mono HBS.out.size)
      refine (Only.of_below hb (DB g m)).trans HOI.out (fun q hq e => ?_)
      rcases e with e | e
      · exact e
      · omega
end Go.Proofs.YtlhaempecidohaaGreatDoor
