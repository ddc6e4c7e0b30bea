/-
  Package store: Logs.
-/
import Derived.Sort.OwnSortedInts
import Derived.Lib.AtoiErrMem
import Derived.Test.YtlhaempecidohaaGreatDoorJbk
import Derived.Test.YtlhaempecidohaaGreatDoorJad
set_option linter.unusedSimpArgs false
set_option linter.unusedVariables false
namespace Go.Proofs.YtlhaempecidohaaGreatDoor
open Go.RowKit Go.Sort
def iV (i : Nat) : List Value := [.int .i64 (i : Int)]
theorem inf3 : (Tryz.prog.info? 3).map (fun i => (i.zero, i.size, i.bytes)) = some (some (.int .i64 0), 1, 8) := by kernel_rfl
theorem und40 : Tryz.prog.underlying 40 = some (.slice 3) := by kernel_rfl
/-- which mailbox's log a name is of -/
def logOf (s : ByteArray) : Option Nat := (List.range 16).find? fun i => decide (logN i = s)
theorem logOf_some {s : ByteArray} {i : Nat} (h : logOf s = some i) : i < 16 ∧ logN i = s := by
  have h1 := List.find?_some h
  have h2 := List.mem_of_find?_eq_some h
  exact ⟨List.mem_range.1 h2, by simpa using h1⟩
theorem logOf_log {i : Nat} (h : i < 16) : logOf (logN i) = some i := by
  cases hl : logOf (logN i) with
  | none =>
    have := List.find?_eq_none.1 hl i (List.mem_range.2 h)
    simp at this
  | some j =>
    obtain ⟨h1, h2⟩ := logOf_some hl
    rw [(names_inj j h1 i h).1 h2]
theorem log_facts : ∀ s ∈ Nm, (match logOf s with
    | some i => decide (Lib.hasPrefix s.data.toList [108, 111, 103, 46] = true) && decide (Lib.trimPrefix s.data.toList [108, 111, 103, 46] = (itoaB i).map UInt8.ofNat) && decide (Lib.atoiAll ((itoaB i).map UInt8.ofNat) = .ok (i : Int))
    | none => decide (Lib.hasPrefix s.data.toList [108, 111, 103, 46] = false) && decide (Lib.trimPrefix s.data.toList [108, 111, 103, 46] = s.data.toList) && decide (Lib.atoiAll s.data.toList = Lib.atoiAll [])) = true := by decide +kernel
theorem iV_flat : ∀ l : List Nat, (l.map iV).flatten = (l.map (fun (i : Nat) => (i : Int))).map (Value.int .i64)
  | [] => rfl
  | a :: l => by
    rw [List.map_cons, List.flatten_cons, iV_flat l]; rfl
/-- what Logs hands back -/
def LogsE (w : World) (nums : List Nat) (e : Ending) (w' : World) : Prop :=
  ∃ A n c, e = .returned (.slice A n c) ∧ RowO w' w.heap.size 3 1 A n c (nums.map iV) ∧ Below w.heap.size w w'
theorem Only.of_sorted {w : World} {g n : Nat} {os : Array Obj} (d : Array Int) : Only (fun b => b = g) w (grow (putRow (Value.int .i64) (Sort.ahead w n) g 0 d) os) :=
  Only.of_grown (grownBy_sortedI d) (fun k hk => by injection hk with hk; exact hk.symm)
set_option maxRecDepth 8000 in
set_option maxHeartbeats 2000000 in
theorem logs_any {w : World} {g m cap : Nat} {F : DiskF} (h : DiskS w g m cap F) (hN : Names Nm F) (nums : List Nat) (hup : nums.Pairwise (· < ·)) (h16 : ∀ n ∈ nums, n < 16) (hl : ∀ n < 16, n ∉ nums → AL.get F (logN n) = none) (hl' : ∀ n ∈ nums, ∃ f, AL.get F (logN n) = some f) (hE : Env w) :
    Calls Tryz.prog 62 #[.pointer (some ⟨g, 0, none⟩)] w (LogsE w nums) := by
  have hnd := h.nodup
  have hsub : ∀ s ∈ AL.keys F, s ∈ Nm := fun s hs => by
    cases hg : AL.get F s with
    | none => exact absurd hs (AL.get_none_iff.1 hg)
    | some f => exact (hN s f hg).1
  have hlenF : F.length ≤ 1000000 := by
    have h1 := hnd.length_le_of_subset (l₂ := Nm) (fun s hs => hsub s hs)
    have h2 : Nm.length ≤ 1000000 := by decide +kernel
    have h3 : (AL.keys F).length = F.length := by unfold AL.keys; rw [List.length_map]
    omega
  have hNA := names_any h hlenF
  have hgot : ∀ ns : List ByteArray, ns.Perm (AL.keys F) → (ns.filterMap logOf).Perm nums := by
    intro ns hp
    have hns : ns.Nodup := (hp.nodup_iff).2 hnd
    have n1 : (ns.filterMap logOf).Nodup := by
      rw [List.Nodup, List.pairwise_filterMap]
      refine hns.imp (fun {a b} hab i hi j hj e => hab ?_)
      obtain ⟨-, h1⟩ := logOf_some hi
      obtain ⟨-, h2⟩ := logOf_some hj
      rw [← h1, ← h2, e]
    have n2 : nums.Nodup := hup.imp (fun {a b} h => by omega)
    refine (List.perm_ext_iff_of_nodup n1 n2).2 (fun i => ?_)
    rw [List.mem_filterMap]
    constructor
    · rintro ⟨s, hs, hi⟩
      obtain ⟨h1, h2⟩ := logOf_some hi
      by_cases hin : i ∈ nums
      · exact hin
      · exfalso
        have := hl i h1 hin
        rw [h2] at this
        exact AL.get_none_iff.1 this (hp.mem_iff.1 hs)
    · intro hi
      obtain ⟨f, hf⟩ := hl' i hi
      refine ⟨logN i, hp.mem_iff.2 ?_, logOf_log (h16 i hi)⟩
      by_cases hc : logN i ∈ AL.keys F
      · exact hc
      · rw [AL.get_none_iff.2 hc] at hf
        cases hf
  have H := Lib.hid h
  have HNA := Lib.hid hNA
  have HGOT := Lib.hid hgot
  have HSUB := Lib.hid hsub
  have HUP := Lib.hid hup
  have HE := Lib.hid hE
  clear h hN hl hl' hE hnd hsub hNA hgot hup
  go_enter Tryz.func62, Tryz.ntmps62
  go_wp2_with fail
  refine HNA.out.mono ?_
  rintro e w1 ⟨A, n, c, ns, rfl, hs, hp, hnc, hblk, hb1⟩
  have hnl : ns.length = n := hs.len
  have hn7 : n ≤ 1000000 := by
    have h1 := hp.length_eq
    have h3 : (AL.keys F).length = F.length := by unfold AL.keys; rw [List.length_map]
    omega
  have HS := Lib.hid hs
  have HP := Lib.hid hp
  have HB1 := Lib.hid hb1
  have HNL : Hid (ns.length = n) := hnl
  clear hs hp hb1 hblk hnl HNA
  go_wp2_with fail
  go_loopw [3, 13] (fun v3 v13 wr => ∃ (j : Nat) (G : Option Addr) (k kc : Nat), j ≤ n ∧ v3 = .slice G k kc ∧ v13 = .int .i64 (j : Int) ∧ k ≤ j ∧ RowO wr w1.heap.size 3 1 G k kc (((ns.take j).filterMap logOf).map iV) ∧ Below w1.heap.size w1 wr) (fun _ v13 _ => n - (intOf v13).toNat)
  case atStart => exact ⟨0, none, 0, 0, Nat.zero_le _, rfl, rfl, Nat.le_refl _, RowO.nil _ _ _ _, Below.refl _ _⟩
  case round =>
    obtain ⟨j, G, k, kc, hj, rfl, rfl, hkj, hrow, hb⟩ := hrel
    have hbw : Below w.heap.size w wr := HB1.out.trans (hb.mono HB1.out.size)
    have HROW := Lib.hid hrow
    have HB := Lib.hid hb
    have HBW := Lib.hid hbw
    clear hrow hb hbw
    by_cases hlt : j < n
    · obtain ⟨gA, s, rfl, hsj, hcell⟩ := (HS.out.below HB.out).at_ hlt
      have hmem : s ∈ Nm := HSUB.out s (HP.out.mem_iff.1 (List.mem_of_getElem? hsj))
      have hfact := log_facts s hmem
      have hsz := right_size (Nm_right s hmem)
      have htk : (ns.take (j + 1)).filterMap logOf = (ns.take j).filterMap logOf ++ (logOf s).toList := by
        obtain ⟨hi, hx⟩ := List.getElem?_eq_some_iff.1 hsj
        rw [List.take_succ_eq_append_getElem hi, hx, List.filterMap_append]
        cases hlo : logOf s <;> simp [hlo]
      have hCP := Tryz.strings_CutPrefix s ⟨#[108, 111, 103, 46]⟩ wr
      have HTK := Lib.hid htk
      clear hsj htk hmem
      cases hlo : logOf s with
      | none =>
        rw [hlo] at hfact HTK
        simp only [Bool.and_eq_true, decide_eq_true_eq] at hfact
        obtain ⟨⟨f1, f2⟩, f3⟩ := hfact
        rw [f1, f2, ba_list] at hCP
        obtain ⟨tp, p, hvar⟩ := (HE.out.below HBW.out).err
        have hAT := Tryz.strconv_Atoi_syntax_var s (by omega) f3 tp p wr hvar
        have HCP := Lib.hid hCP
        have HAT := Lib.hid hAT
        clear hCP hAT f1 f2 f3 hvar hlo
        go_wp2_with fail
        refine HCP.out.mono ?_
        rintro e w2 ⟨rfl, rfl⟩
        go_wp2_with fail
        refine HAT.out.mono ?_
        rintro e w3 ⟨N, rfl, -, -, hb3⟩
        have HB3 := Lib.hid hb3
        clear hb3
        go_wp2_with fail
        refine ⟨⟨j + 1, G, k, kc, hlt, rfl, by first | rfl | (congr 1), by omega, ?_, HB.out.trans (HB3.out.mono HB.out.size)⟩, by simp [intOf]; omega⟩
        rw [HTK.out]
        simpa using HROW.out.below HB3.out
      | some i =>
        have hi16 := (logOf_some hlo).1
        rw [hlo] at hfact HTK
        simp only [Bool.and_eq_true, decide_eq_true_eq] at hfact
        obtain ⟨⟨f1, f2⟩, f3⟩ := hfact
        have hl2 : (itoaB i).length ≤ 2 := by unfold itoaB; split <;> simp
        have hIT := Tryz.strconv_Itoa_small i (by omega)
        rw [digs16 i hi16] at hIT
        rw [f1, f2] at hCP
        obtain ⟨q, hq⟩ : ∃ q : ByteArray, q = ⟨((itoaB i).map UInt8.ofNat).toArray⟩ := ⟨_, rfl⟩
        have hqs : q.size ≤ 2 := by rw [hq]; show ((itoaB i).map UInt8.ofNat).toArray.size ≤ 2; simpa using hl2
        have hql : q.data.toList = (itoaB i).map UInt8.ofNat := by rw [hq]
        rw [← hq] at hCP hIT
        have hAT := Tryz.strconv_Atoi_ok q (by omega) (i : Int) (by rw [hql]; exact f3) wr
        have HCP := Lib.hid hCP
        have HAT := Lib.hid hAT
        have HIT := Lib.hid hIT
        have g1 : (0 : Int) ≤ (i : Int) := by omega
        have g2 : (i : Int) < 16 := by omega
        clear hCP hAT hIT f1 f2 f3 hlo hq hql hl2
        go_wp2_with fail
        refine HCP.out.mono ?_
        rintro e w2 ⟨rfl, rfl⟩
        go_wp2_with fail
        refine HAT.out.mono ?_
        rintro e w3 ⟨rfl, hw3⟩
        have hb3 : Below w2.heap.size w2 w3 := by
          rcases hw3 with rfl | ⟨t, rfl⟩
          · exact Below.refl _ _
          · exact Lib.bytesWorld_below _ _ _
        have HB3 := Lib.hid hb3
        have HRW3 := Lib.hid (HROW.out.below hb3)
        clear hb3 hw3
        go_wp2_with fail
        refine (HIT.out w3).mono ?_
        rintro e w4 ⟨rfl, rfl⟩
        have hzz := HB.out.size
        have hz3 := HB3.out.size
        have hbz : w1.heap.size ≤ w4.heap.size + 1 := by omega
        have hbz0 : w1.heap.size ≤ w4.heap.size := by omega
        go_wp2_with (at_builtin; refine wp_append_row rfl (.tmp 46) (.tmp 48) 40 3 1 _ 8 und40 inf3 rfl (by decide) (by decide) rfl rfl rfl (HRW3.out.below ((Below.refl _ _).alloc (Nat.le_refl _) _)) (range_new w4 (iV i) 3) rfl (by simp [iV, Value.oneCell']) (by omega) (by simp; omega) ?_; intro G5 c5 w5 hro5 ho5 hbk5; have HRO5 := Lib.hid hro5; have HO5 := Lib.hid ho5; have hb4 := (Below.refl w4.heap.size w4).alloc (Nat.le_refl _) (.cells (iV i).toArray 3); have HB4 := Lib.hid hb4; clear hro5 ho5 hbk5 hb4)
        have hrl := HRW3.out.lt
        refine ⟨⟨j + 1, G5, k + 1, c5, hlt, rfl, by first | rfl | (congr 1), by omega, ?_, ?_⟩, by simp [intOf]; omega⟩
        · rw [HTK.out, List.map_append]
          exact HRO5.out
        · exact HB.out.trans (((HB3.out.trans (HB4.out.mono HB3.out.size)).mono hzz).trans (HO5.out.below (Nat.le_trans hbz0 HB4.out.size) (fun b hb e => by have := (hrl b e).1; omega)))
    · obtain rfl : j = n := by omega
      have hrow := HROW.out
      rw [List.take_of_length_le (by rw [HNL.out]; exact Nat.le_refl _)] at hrow
      have hperm := HGOT.out ns HP.out
      obtain ⟨Z, hZ⟩ : ∃ Z, ns.filterMap logOf = Z := ⟨_, rfl⟩
      rw [hZ] at hrow hperm
      have hZl : Z.length = k := by have := hrow.len; rwa [List.length_map] at this
      have hflat := iV_flat Z
      have hsorted : ((Z.map (fun (i : Nat) => (i : Int))).mergeSort fun x y => decide (x ≤ y)) = nums.map (fun (i : Nat) => (i : Int)) := by
        refine List.Perm.eq_of_pairwise (le := fun a b : Int => a ≤ b) (fun a b _ _ h1 h2 => by omega) ?_ ?_ ((List.mergeSort_perm _ _).trans (hperm.map _))
        · refine (List.pairwise_mergeSort (le := fun x y : Int => decide (x ≤ y)) ?_ ?_ _).imp (fun {a b} h => by simpa using h)
          · intro a b c h1 h2
            simp only [decide_eq_true_eq] at h1 h2 ⊢
            omega
          · intro a b
            simp only [Bool.or_eq_true, decide_eq_true_eq]
            omega
        · rw [List.pairwise_map]
          exact HUP.out.imp (fun {a b} h => by omega)
      by_cases hk0 : k = 0
      · subst hk0
        have hZ0 : Z = [] := List.eq_nil_of_length_eq_zero hZl
        have hn0 : nums = [] := by
          rw [hZ0] at hperm
          exact hperm.nil_eq.symm
        have HSO := Lib.hid (Tryz.slices_Sort_int_none G kc wr)
        have HRW := Lib.hid hrow
        clear hrow hperm hflat hsorted hZ hZl
        go_wp2_with fail
        refine HSO.out.mono ?_
        rintro e w2 ⟨rfl, rfl⟩
        go_wp2_with fail
        go_ret
        have hr := HRW.out.more (B := w.heap.size) (fun q hq => Nat.le_trans HB1.out.size (HRW.out.lt q hq).1)
        rw [hZ0] at hr
        rw [hn0]
        exact ⟨G, 0, kc, rfl, hr, HBW.out⟩
      · obtain ⟨gG, rfl⟩ := hrow.form (by omega)
        obtain ⟨cur, hh, hkc, hcs, htake⟩ := hrow.block
        have hlk : (Z.map (fun (i : Nat) => (i : Int))).length = k := by rw [List.length_map]; exact hZl
        rw [hflat, Nat.mul_one, ← hlk] at htake
        have hHo := holds_of_blockI hh htake
        have hgl := hrow.lt gG rfl
        have hso := Tryz.slices_Sort_int gG 0 kc (Z.map (fun (i : Nat) => (i : Int))) wr hHo hgl.2 (by rw [hlk]; omega)
        rw [hlk, hsorted] at hso
        have hmost : kc ≤ maxLen := by
          rcases hrow.own.2 with ⟨hv, -⟩ | ⟨g', cp, cu, hv, -, -, -, hm', -⟩
          · cases hv
          · injection hv with _ _ hc
            rw [hc]; exact hm'
        have HSO := Lib.hid hso
        have HH := Lib.hid hh
        have HCS := Lib.hid hcs
        have hgl1 := hgl.1
        have hnk : nums.length = k := by rw [← hperm.length_eq, hZl]
        clear hrow hperm hflat hsorted hZ htake hHo hso hh hcs hgl HROW
        go_wp2_with fail
        refine HSO.out.mono ?_
        rintro e w2 ⟨rfl, nn, os, hw2⟩
        have HW2 := Lib.hid hw2
        clear hw2
        go_wp2_with fail
        go_ret
        have hz1 := HB1.out.size
        have hown := ownsRow_sortedI (n := nn) (os := os) (base := w.heap.size) (ss := Z.map (fun (i : Nat) => (i : Int))) (ts := nums.map (fun (i : Nat) => (i : Int))) (by rw [List.length_map, hnk, hlk]) (by omega) HH.out (by rw [hlk]; exact hkc) hmost (by rw [HCS.out])
        rw [← HW2.out, hlk] at hown
        have hflat2 := iV_flat nums
        have hon : Only (fun b => b = gG) wr w2 := by rw [HW2.out]; exact Only.of_sorted _
        refine ⟨some ⟨gG, 0, none⟩, k, kc, rfl, ⟨by rw [List.length_map]; exact hnk, fun v hv => ?_, by rw [hflat2]; exact hown⟩, HBW.out.trans (hon.below HBW.out.size (fun b hb e => by omega))⟩
        obtain ⟨i, -, rfl⟩ := List.mem_map.1 hv
        rfl
end Go.Proofs.YtlhaempecidohaaGreatDoor
