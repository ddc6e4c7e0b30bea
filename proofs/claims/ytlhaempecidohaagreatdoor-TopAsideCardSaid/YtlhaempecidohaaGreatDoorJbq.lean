/-
  slices.Index, slices.Contains of ints, of strings; slices.Equal of places. Package store: made, stray. Package disk: Harm. Package repair: file, Aside. Package repair: file, Aside. Package store: Open. Package repair: pages.
-/
import Derived.Test.YtlhaempecidohaaGreatDoorJbp
import Derived.Test.YtlhaempecidohaaGreatDoorJbn
import Derived.Test.YtlhaempecidohaaGreatDoorJbj
set_option linter.unusedSimpArgs false
set_option linter.unusedVariables false
namespace Go.Proofs.YtlhaempecidohaaGreatDoor
open Go.RowKit
theorem mem_take_succ {α : Type} {l : List α} {i : Nat} {x y : α} (hx : l[i]? = some x) (h : y ∉ l.take i) (hne : y ≠ x) : y ∉ l.take (i + 1) := by
  obtain ⟨h1, h2⟩ := List.getElem?_eq_some_iff.1 hx
  rw [List.take_succ_eq_append_getElem h1, h2, List.mem_append, List.mem_singleton]
  rintro (h3 | h3)
  · exact h h3
  · exact hne h3
set_option maxRecDepth 8000 in
set_option maxHeartbeats 1000000 in
theorem iindex_any (A : Option Addr) (n c u : Nat) (l : List Nat) (w : World) (h : RowR w A n 1 (l.map iV)) (hn : n ≤ 1000000) :
    Calls Tryz.prog 122 #[.slice A n c, .int .i64 (u : Int)] w fun e w' => (∃ i : Int, (0 ≤ i ↔ u ∈ l) ∧ e = .returned (.int .i64 i)) ∧ w' = w := by
  have hl : l.length = n := by rw [← h.len, List.length_map]
  have H := Lib.hid h
  have HL : Hid (l.length = n) := hl
  clear h hl
  go_enter Tryz.func122, Tryz.ntmps122
  go_wp2_with fail
  go_loopw [8] (fun v8 wr => ∃ i : Nat, i ≤ n ∧ v8 = .int .i64 (i : Int) ∧ u ∉ l.take i ∧ wr = w) (fun v8 _ => n - (intOf v8).toNat)
  case atStart => exact ⟨0, Nat.zero_le _, rfl, by simp, rfl⟩
  case round =>
    obtain ⟨i, hi, rfl, hno, rfl⟩ := hrel
    by_cases hlt : i < n
    · obtain ⟨g, x, rfl, hx, hr⟩ := H.out.map hlt
      have hcell : wr.cell? ⟨g, i, none⟩ = some (.int .i64 (x : Int)) := by have := hr 0 _ rfl; rwa [Nat.mul_one, Nat.add_zero] at this
      have e1 := nat_beq u x
      have hm := List.mem_of_getElem? hx
      have hnx := fun hne => mem_take_succ hx hno hne
      obtain ⟨b, hb⟩ : ∃ b, b = decide (u = x) := ⟨_, rfl⟩
      rw [← hb] at e1
      have HB := Lib.hid hb
      have HM := Lib.hid hm
      have HNX := Lib.hid hnx
      clear hb hx hm hnx hno hr
      cases b
      · go_wp2_with fail
        exact ⟨⟨i + 1, hlt, by first | rfl | (congr 1), HNX.out (by simpa using HB.out.symm), by trivial⟩, by simp [intOf]; omega⟩
      · go_wp2_with fail
        go_ret
        exact ⟨⟨(i : Int), ⟨fun _ => by rw [of_decide_eq_true HB.out.symm]; exact HM.out, fun _ => by omega⟩, rfl⟩, rfl⟩
    · go_wp2_with fail
      go_ret
      refine ⟨⟨-1, ⟨fun h => by omega, fun h => ?_⟩, rfl⟩, rfl⟩
      rw [List.take_of_length_le (by have := HL.out; omega)] at hno
      exact absurd h hno
theorem icontains_any (A : Option Addr) (n c u : Nat) (l : List Nat) (w : World) (h : RowR w A n 1 (l.map iV)) (hn : n ≤ 1000000) :
    Calls Tryz.prog 63 #[.slice A n c, .int .i64 (u : Int)] w fun e w' => e = .returned (.bool (decide (u ∈ l))) ∧ w' = w := by
  have H := Lib.hid (iindex_any A n c u l w h hn)
  clear h
  go_enter Tryz.func63, Tryz.ntmps63
  go_wp2_with fail
  refine H.out.mono ?_
  rintro e w1 ⟨⟨i, hi, rfl⟩, rfl⟩
  have HI : Hid (0 ≤ i ↔ u ∈ l) := hi
  clear hi
  go_wp2_with fail
  go_ret
  rw [show decide (u ∈ l) = decide (0 ≤ i) by simp only [HI.out]]
  exact ⟨rfl, rfl⟩
set_option maxRecDepth 8000 in
set_option maxHeartbeats 1000000 in
theorem sindex_any (A : Option Addr) (n c : Nat) (u : ByteArray) (l : List ByteArray) (w : World) (h : SRow w A n l) (hn : n ≤ 1000000) :
    Calls Tryz.prog 138 #[.slice A n c, .string u] w fun e w' => (∃ i : Int, (0 ≤ i ↔ u ∈ l) ∧ e = .returned (.int .i64 i)) ∧ w' = w := by
  have H := Lib.hid h
  have HL : Hid (l.length = n) := h.len
  clear h
  go_enter Tryz.func138, Tryz.ntmps138
  go_wp2_with fail
  go_loopw [8] (fun v8 wr => ∃ i : Nat, i ≤ n ∧ v8 = .int .i64 (i : Int) ∧ u ∉ l.take i ∧ wr = w) (fun v8 _ => n - (intOf v8).toNat)
  case atStart => exact ⟨0, Nat.zero_le _, rfl, by simp, rfl⟩
  case round =>
    obtain ⟨i, hi, rfl, hno, rfl⟩ := hrel
    by_cases hlt : i < n
    · obtain ⟨g, x, rfl, hx, hcell⟩ := H.out.at_ hlt
      have hm := List.mem_of_getElem? hx
      have hnx := fun hne => mem_take_succ hx hno hne
      have HM := Lib.hid hm
      have HNX := Lib.hid hnx
      clear hx hm hnx hno
      by_cases hux : u = x
      · have HUX := Lib.hid hux
        have e1 : (u.toList == x.toList) = true := by rw [str_eqb]; exact decide_eq_true hux
        clear hux
        go_wp2_with fail
        go_ret
        exact ⟨⟨(i : Int), ⟨fun _ => by rw [HUX.out]; exact HM.out, fun _ => by omega⟩, rfl⟩, rfl⟩
      · have e1 : (u.toList == x.toList) = false := by rw [str_eqb]; exact decide_eq_false hux
        go_wp2_with fail
        exact ⟨⟨i + 1, hlt, by first | rfl | (congr 1), HNX.out hux, by trivial⟩, by simp [intOf]; omega⟩
    · go_wp2_with fail
      go_ret
      refine ⟨⟨-1, ⟨fun h => by omega, fun h => ?_⟩, rfl⟩, rfl⟩
      rw [List.take_of_length_le (by have := HL.out; omega)] at hno
      exact absurd h hno
/-- is it among them? -/
def memS (u : ByteArray) (l : List ByteArray) : Bool := l.any fun x => decide (x = u)
theorem memS_iff {u : ByteArray} {l : List ByteArray} : memS u l = true ↔ u ∈ l := by
  unfold memS
  rw [List.any_eq_true]
  exact ⟨fun ⟨x, h1, h2⟩ => by rw [decide_eq_true_iff] at h2; exact h2 ▸ h1, fun h => ⟨u, h, decide_eq_true rfl⟩⟩
theorem memS_not {u : ByteArray} {l : List ByteArray} : memS u l = false ↔ u ∉ l := by
  rw [← memS_iff]; simp
theorem scontains_any (A : Option Addr) (n c : Nat) (u : ByteArray) (l : List ByteArray) (w : World) (h : SRow w A n l) (hn : n ≤ 1000000) :
    Calls Tryz.prog 78 #[.slice A n c, .string u] w fun e w' => e = .returned (.bool (memS u l)) ∧ w' = w := by
  have H := Lib.hid (sindex_any A n c u l w h hn)
  clear h
  go_enter Tryz.func78, Tryz.ntmps78
  go_wp2_with fail
  refine H.out.mono ?_
  rintro e w1 ⟨⟨i, hi, rfl⟩, rfl⟩
  have HI : Hid (0 ≤ i ↔ u ∈ l) := hi
  clear hi
  go_wp2_with fail
  go_ret
  rw [show memS u l = decide (0 ≤ i) from (Bool.eq_iff_iff.2 (by rw [memS_iff, decide_eq_true_iff]; exact HI.out.symm))]
  exact ⟨rfl, rfl⟩
set_option maxRecDepth 8000 in
set_option maxHeartbeats 1000000 in
theorem placesEq_any (A B : Option Addr) (n c d : Nat) (l : List PlaceS) (w : World) (h : RowR w A n 2 (l.map placeV)) (h' : RowR w B n 2 (l.map placeV)) (hn : n ≤ 1000000) :
    Calls Tryz.prog 57 #[.slice A n c, .slice B n d] w fun e w' => e = .returned (.bool true) ∧ Below w.heap.size w w' := by
  have H := Lib.hid h
  have H' := Lib.hid h'
  clear h h'
  go_enter Tryz.func57, Tryz.ntmps57
  go_wp2_with fail
  go_loopw [13] (fun v13 wr => ∃ i : Nat, i ≤ n ∧ v13 = .int .i64 (i : Int) ∧ Below w.heap.size w wr) (fun v13 _ => n - (intOf v13).toNat)
  case atStart => exact ⟨0, Nat.zero_le _, rfl, Below.refl _ _⟩
  case round =>
    obtain ⟨i, hi, rfl, hb⟩ := hrel
    by_cases hlt : i < n
    · obtain ⟨g, x, rfl, hx, hr⟩ := (H.out.below hb).map hlt
      obtain ⟨g', x', rfl, hx', hr'⟩ := (H'.out.below hb).map hlt
      rw [hx] at hx'
      injection hx' with hx'
      subst hx'
      obtain ⟨k, s⟩ := x
      have a0 : wr.cell? ⟨g, i * 2, none⟩ = some (.int .i64 (k : Int)) := hr 0 _ rfl
      have a1 : wr.cell? ⟨g, i * 2 + 1, none⟩ = some (.string s) := hr 1 _ rfl
      have b0 : wr.cell? ⟨g', i * 2, none⟩ = some (.int .i64 (k : Int)) := hr' 0 _ rfl
      have b1 : wr.cell? ⟨g', i * 2 + 1, none⟩ = some (.string s) := hr' 1 _ rfl
      have HB := Lib.hid hb
      clear hr hr' hx hb
      go_wp2_with fail
      go_region
      go_wp2_with fail
      exact ⟨⟨i + 1, hlt, by first | rfl | (congr 1), HB.out.drew⟩, by simp [intOf]; omega⟩
    · go_wp2_with fail
      go_ret
      exact ⟨rfl, hb⟩
end Go.Proofs.YtlhaempecidohaaGreatDoor
namespace Go.Proofs.YtlhaempecidohaaGreatDoor
open Go.RowKit
theorem first_small {nm : ByteArray} (h : named nm = true) : firstLen nm ≤ 400 := by
  have hw := first_whole h
  have h1 := first_len h
  have h2 := hw.length
  have h3 := hw.ofI
  have hr := first_read nm
  have hs := named_size h
  have e : (BoxSt.first nm).ns = [firstN nm] := rfl
  rw [e, hr] at h2 h3
  have h2 : (BoxSt.first nm).f.L.length = 0 := h2
  have h4 : (flgB (BoxSt.first nm).f).length = 18 := by unfold flgB; rw [page_length, flgP_length, h2]
  have h5 : (idxB (BoxSt.first nm).idx).length = nm.size + 28 := by
    have e2 : (BoxSt.first nm).idx = ofI (readS [firstN nm]) (logB [firstN nm]).length := rfl
    rw [e2, hr, h3]
    unfold idxB
    rw [page_length, idxP_length]
    show nm.size + 16 + ([] : List LiveS).length * 8 + 12 = _
    simp
  unfold firstLen
  omega
/-- what a mailbox laid takes of a disk -/
theorem Laid.total_ {F F' : DiskF} {n : Nat} {b : BoxSt} (h : Laid F F' n b) (hF : (AL.keys F).Nodup) (hF' : (AL.keys F').Nodup) (h16 : n < 16)
 :
    F'.total + (lenF (AL.get F (logN n)) + lenF (AL.get F (flgN n)) + lenF (AL.get F (idxN n))) = F.total + (logB b.ns).length + (flgB b.f).length + (idxB b.idx).length := by
  obtain ⟨-, -, -, a1, a2, a3⟩ := names_inj n h16 n h16
  have u1 := Upd.put F (logN n) (safeF (logB b.ns))
  have d1 := AL.nodup_put hF (logN n) (safeF (logB b.ns))
  have u2 := Upd.put (AL.put F (logN n) (safeF (logB b.ns))) (flgN n) (safeF (flgB b.f))
  have d2 := AL.nodup_put d1 (flgN n) (safeF (flgB b.f))
  have u3 := Upd.put (AL.put (AL.put F (logN n) (safeF (logB b.ns))) (flgN n) (safeF (flgB b.f))) (idxN n) (safeF (idxB b.idx))
  have d3 := AL.nodup_put d2 (idxN n) (safeF (idxB b.idx))
  have e := total_of_get hF' d3 (fun s => by rw [h s, AL.get_put, AL.get_put, AL.get_put])
  have t1 := u1.total hF d1
  have t2 := u2.total d1 d2
  have t3 := u3.total d2 d3
  have l : ∀ l : List Nat, lenF (some (safeF l)) = l.length := fun _ => rfl
  rw [l] at t1
  rw [u1.other (fun e => a2 e.symm), l] at t2
  rw [u2.other a3, u1.other (fun e => a1 e.symm), l] at t3
  omega
theorem Laid.total {F F' : DiskF} {n : Nat} {b : BoxSt} (h : Laid F F' n b) (hF : (AL.keys F).Nodup) (hF' : (AL.keys F').Nodup) (h16 : n < 16)
    (h1 : AL.get F (logN n) = none) (h2 : AL.get F (flgN n) = none) (h3 : AL.get F (idxN n) = none) :
    F'.total = F.total + (logB b.ns).length + (flgB b.f).length + (idxB b.idx).length := by
  have := h.total_ hF hF' h16
  rw [h1, h2, h3] at this
  have l0 : lenF none = 0 := rfl
  rw [l0] at this
  omega
theorem Rest.untree {F1 F2 : DiskF} {bs : Boxes} {v : Option FileS} (h : Rest F2 bs) (hu : Upd F1 F2 treeN v) (hN : Names Nm F1) : Good F1 bs none := by
  have ha := names_apart
  refine h.good.of_same hN (fun n hn => (hu.other (ha n hn).1).symm) (fun p hp => ⟨(hu.other (ha _ (h.good.few p hp)).2.2.1).symm, (hu.other (ha _ (h.good.few p hp)).2.2.2.2.1).symm⟩) ?_
  rw [← hu.other new_tree]
  exact h.good.new
/-- what is on a disk with a store of nothing -/
def MadeE (w : World) (g m cap : Nat) (e : Ending) (w' : World) : Prop :=
  e = .returned (.int .i64 0) ∧ ∃ F', DiskS w' g m cap F' ∧ Rest F' [(0, BoxSt.first inboxS)] ∧ F'.total ≤ 1000 ∧ Only (DB g m) w w'
theorem inbox_tree : (treeB (Boxes.places [(0, BoxSt.first inboxS)])).length = 21 := by
  have e : Boxes.places [(0, BoxSt.first inboxS)] = [(0, inboxS)] := by
    show [(0, (BoxSt.first inboxS).l.name)] = _
    rw [first_name]
  rw [e]
  unfold treeB
  rw [page_length]
  rfl
set_option maxRecDepth 8000 in
set_option maxHeartbeats 1000000 in
theorem made_any {w : World} {g m cap : Nat} (h : DiskS w g m cap []) (hE : Env w) (hg9 : 9 ≤ g ∧ 9 ≤ m) (hcap : 1000 ≤ cap) :
    Calls Tryz.prog 55 #[.pointer (some ⟨g, 0, none⟩)] w (MadeE w g m cap) := by
  have hfl := first_small named_inbox
  have hB : Calls Tryz.prog 65 #[.pointer (some ⟨g, 0, none⟩), .int .i64 0, .string ⟨#[73, 78, 66, 79, 88]⟩] w (BeginE w g m cap [] 0 (BoxSt.first inboxS)) :=
    begin_any h 0 (by omega) inboxS named_inbox rfl rfl hE hg9 (by show 0 + firstLen inboxS ≤ cap; omega)
  have HB := Lib.hid hB
  have HE := Lib.hid hE
  have HG9 := Lib.hid hg9
  have HFL := Lib.hid hfl
  have HD := Lib.hid h
  clear h hE hB hg9 hfl
  go_enter Tryz.func55, Tryz.ntmps55
  go_wp2_with fail
  refine HB.out.mono ?_
  rintro e w1 ⟨rfl, F1, hd1, hl1, ho1⟩
  have hw := first_whole named_inbox
  have hnm := first_name inboxS
  have hnone : ∀ s, AL.get ([] : DiskF) s = none := fun s => rfl
  have hrest := Rest.first hnone hl1 hw hnm (Upd.put F1 treeN _)
  have hgood := hrest.untree (Upd.put F1 treeN _) (hl1.names (names_in 0 (by omega)) (fun s f hf => by cases hf)).mono
  have htot := hl1.total (by exact List.nodup_nil) hd1.nodup (by omega) rfl rfl rfl
  have hfit : F1.total + (treeB (Boxes.places [(0, BoxSt.first inboxS)])).length ≤ cap := by
    have h1 := HFL.out
    unfold firstLen at h1
    have e1 : (logB (BoxSt.first inboxS).ns) = logB [firstN inboxS] := rfl
    rw [e1] at htot
    have e2 : AL.total ([] : DiskF) = 0 := rfl
    rw [inbox_tree, htot, e2]
    omega
  have hg := HG9.out
  have HP := Lib.hid (plant_any hd1 hgood (HE.out.only ho1 (fun b e => by rcases e with e | e <;> omega)) hfit)
  have HL1 := Lib.hid hl1
  have HT1 := Lib.hid htot
  have HND1 := Lib.hid hd1.nodup
  have HO1 := Lib.hid ho1
  clear hd1 hl1 ho1 hrest hgood htot hfit
  go_wp2_with fail
  refine HP.out.mono ?_
  rintro e w2 ⟨rfl, F2, hd2, hu2, ho2⟩
  have HD2 := Lib.hid hd2
  have htot2 := hu2.total HND1.out hd2.nodup
  have hT2 : F2.total ≤ 1000 := by
    have h1 := HFL.out
    have h3 := HT1.out
    unfold firstLen at h1
    have e1 : (logB (BoxSt.first inboxS).ns) = logB [firstN inboxS] := rfl
    rw [e1] at h3
    have e2 : AL.total ([] : DiskF) = 0 := rfl
    have e3 : lenF (some (safeF (treeB (Boxes.places [(0, BoxSt.first inboxS)])))) = 21 := inbox_tree
    rw [e2] at h3
    rw [e3] at htot2
    omega
  have HT2 := Lib.hid hT2
  have HR2 := Lib.hid (Rest.first hnone HL1.out hw hnm hu2)
  have HO2 := Lib.hid (HO1.out.trans ho2 (fun _ _ h => h))
  clear hd2 hu2 ho2 htot2 hT2
  go_wp2_with fail
  go_ret
  exact ⟨rfl, F2, HD2.out, HR2.out, HT2.out, HO2.out⟩
theorem Names.len {F : DiskF} (hnd : (AL.keys F).Nodup) (hN : Names Nm F) : F.length ≤ 1000000 := by
  have h1 := hnd.length_le_of_subset (l₂ := Nm) (fun s hs => by
    cases hg : AL.get F s with
    | none => exact absurd hs (AL.get_none_iff.1 hg)
    | some f => exact (hN s f hg).1)
  have h2 : Nm.length ≤ 1000000 := by decide +kernel
  have h3 : (AL.keys F).length = F.length := by unfold AL.keys; rw [List.length_map]
  omega
theorem has_no {F : DiskF} {ns : List ByteArray} (hp : ns.Perm (AL.keys F)) {s : ByteArray} (h : AL.get F s = none) : memS s ns = false :=
  memS_not.2 (fun hm => AL.get_none_iff.1 h (hp.mem_iff.1 hm))
theorem has_yes {F : DiskF} {ns : List ByteArray} (hp : ns.Perm (AL.keys F)) {s : ByteArray} {f : FileS} (h : AL.get F s = some f) : memS s ns = true := by
  refine memS_iff.2 (hp.mem_iff.2 ?_)
  by_cases hc : s ∈ AL.keys F
  · exact hc
  · rw [AL.get_none_iff.2 hc] at h; cases h
set_option maxRecDepth 8000 in
set_option maxHeartbeats 2000000 in
theorem stray_no {w : World} {g m cap : Nat} {F : DiskF} {bs : Boxes} {x : Option (List Nat)} (h : DiskS w g m cap F) (hG : Good F bs x) (hB : Bare F bs) (hE : Env w) :
    Calls Tryz.prog 59 #[.pointer (some ⟨g, 0, none⟩)] w fun e w' => e = .returned (.bool false) ∧ Below w.heap.size w w' := by
  have hlen := hG.names.len h.nodup
  have HLO := Lib.hid (Good.logs_any h hG hE)
  have HNA : Hid (∀ w', Below w.heap.size w w' → Calls Tryz.prog 54 #[.pointer (some ⟨g, 0, none⟩)] w' (Named w' (AL.keys F))) := fun w' hb => names_any (h.below hb) hlen
  have HB := Lib.hid hB
  have HNEW := Lib.hid hG.new
  have hbl := hG.len
  have hkl : (AL.keys F).length ≤ 1000000 := by unfold AL.keys; rw [List.length_map]; exact hlen
  clear h hG hB hE hlen
  go_enter Tryz.func59, Tryz.ntmps59
  go_wp2_with fail
  refine HLO.out.mono ?_
  rintro e w1 ⟨A, n, c, rfl, hr, hb1⟩
  have hn : n ≤ 1000000 := by
    have := hr.len
    rw [List.length_map] at this
    unfold Boxes.nums at this
    rw [List.length_map] at this
    omega
  have HR := Lib.hid hr.read
  have HB1 := Lib.hid hb1
  clear hr hb1
  go_wp2_with fail
  go_loopw [7] (fun v7 wr => ∃ i : Nat, i ≤ 16 ∧ v7 = .int .i64 (i : Int) ∧ Below w1.heap.size w1 wr) (fun v7 _ => 16 - (intOf v7).toNat)
  case atStart => exact ⟨0, by omega, rfl, Below.refl _ _⟩
  case round =>
    obtain ⟨i, hi, rfl, hb⟩ := hrel
    have HBR := Lib.hid hb
    have HBW := Lib.hid (HB1.out.trans (hb.mono HB1.out.size))
    clear hb
    by_cases hlt : i < 16
    · have hIC := icontains_any A n c i bs.nums wr (HR.out.below HBR.out) hn
      by_cases hin : i ∈ bs.nums
      · rw [decide_eq_true hin] at hIC
        have HIC := Lib.hid hIC
        clear hIC hin
        go_wp2_with fail
        refine HIC.out.mono ?_
        rintro e w2 ⟨rfl, rfl⟩
        go_wp2_with fail
        exact ⟨⟨i + 1, hlt, by first | rfl | (congr 1), HBR.out⟩, by simp [intOf]; omega⟩
      · rw [decide_eq_false hin] at hIC
        have HIC := Lib.hid hIC
        have HBI := Lib.hid (HB.out i hlt hin)
        clear hIC hin
        go_wp2_with fail
        refine HIC.out.mono ?_
        rintro e w2 ⟨rfl, rfl⟩
        go_wp2_with fail
        refine (HNA.out w2 HBW.out).mono ?_
        rintro e w3 ⟨A3, n3, c3, ns3, rfl, hs3, hp3, -, -, hb3⟩
        have hsc := scontains_any A3 n3 c3 (idxN i) ns3 w3 hs3 (by have := hp3.length_eq; have := hs3.len; omega)
        rw [has_no hp3 HBI.out.1] at hsc
        have HSC := Lib.hid hsc
        have HB3 := Lib.hid hb3
        clear hs3 hp3 hb3 hsc
        go_wp2_with fail
        refine (idxf_any i hlt w3).mono ?_
        rintro e w3' ⟨rfl, rfl⟩
        go_wp2_with fail
        refine HSC.out.mono ?_
        rintro e w3'' ⟨rfl, rfl⟩
        go_wp2_with fail
        refine (HNA.out _ (HBW.out.trans (HB3.out.mono HBW.out.size))).mono ?_
        rintro e w4 ⟨A4, n4, c4, ns4, rfl, hs4, hp4, -, -, hb4⟩
        have hsc := scontains_any A4 n4 c4 (flgN i) ns4 w4 hs4 (by have := hp4.length_eq; have := hs4.len; omega)
        rw [has_no hp4 HBI.out.2] at hsc
        have HSC4 := Lib.hid hsc
        have HB4 := Lib.hid (HBR.out.trans ((HB3.out.trans (hb4.mono HB3.out.size)).mono HBR.out.size))
        clear hs4 hp4 hb4 hsc
        go_wp2_with fail
        refine (flgf_any i hlt w4).mono ?_
        rintro e w4' ⟨rfl, rfl⟩
        go_wp2_with fail
        refine HSC4.out.mono ?_
        rintro e w4'' ⟨rfl, rfl⟩
        go_wp2_with fail
        exact ⟨⟨i + 1, hlt, by first | rfl | (congr 1), HB4.out⟩, by simp [intOf]; omega⟩
    · obtain rfl : i = 16 := by omega
      go_wp2_with fail
      refine (HNA.out wr HBW.out).mono ?_
      rintro e w3 ⟨A3, n3, c3, ns3, rfl, hs3, hp3, -, -, hb3⟩
      have hsc : Calls Tryz.prog 78 #[.slice A3 n3 c3, .string ⟨#[110, 101, 119]⟩] w3 fun e w' => e = .returned (.bool (memS newN ns3)) ∧ w' = w3 := scontains_any A3 n3 c3 newN ns3 w3 hs3 (by have := hp3.length_eq; have := hs3.len; omega)
      rw [has_no hp3 HNEW.out] at hsc
      have HSC := Lib.hid hsc
      have HB3 := Lib.hid (HBW.out.trans (hb3.mono HBW.out.size))
      clear hs3 hp3 hb3 hsc
      go_wp2_with fail
      refine HSC.out.mono ?_
      rintro e w3' ⟨rfl, rfl⟩
      go_wp2_with fail
      go_ret
      exact ⟨rfl, HB3.out⟩
end Go.Proofs.YtlhaempecidohaaGreatDoor
namespace Go.Proofs.YtlhaempecidohaaGreatDoor
open Go.RowKit
set_option maxRecDepth 8000 in
set_option maxHeartbeats 2000000 in
theorem harm_any {w : World} {g m cap : Nat} {F : DiskF} (h : DiskS w g m cap F) {s : ByteArray} (hs : rightN s = true) {f : FileS} (hf : AL.get F s = some f) {A : Option Addr} {n c : Nat} {l : List Nat} (hl : RB w A n l) (hn : n ≤ 100000) (hfit : F.total + n ≤ cap) :
    Calls Tryz.prog 10 #[.pointer (some ⟨g, 0, none⟩), .string s, .slice A n c] w (Changed w g m cap F s (some (safeF l))) := by
  obtain ⟨L, hL, hF⟩ := h.map
  obtain ⟨v, hv, A0, n0, c0, rfl, hr0, hc0⟩ := (FilesV.get (n := s) hF).2 f hf
  have hsz := size40 (right_size hs)
  have hlk : ∀ w', MapS w' m L → (Instr.lookup 76 (.map (some m)) (.string s) false).run Tryz.prog w' = .ok (.agg #[.slice A0 n0 c0, .int .i64 (f.safe : Int), .bool f.ever]) w' := fun w' hL' => by
    have := MapS.lookD (P := Tryz.prog) (w := w') hL' Tryz.underlying76 Tryz.underlying9 zero75 hsz.out hv 0
    exact this
  have hfd := fun (w : World) => fld75 A0 n0 c0 (.int .i64 (f.safe : Int)) (.bool f.ever) w
  have hn0 : f.b.length = n0 := hr0.1
  have hn0t : n0 ≤ F.total := by rw [← hn0]; exact total_get hf
  have hft := h.fits
  have hmo := h.most
  have hRM : ∀ w', Below w.heap.size w w' → Calls Tryz.prog 19 #[.pointer (some ⟨g, 0, none⟩)] w' fun e w'' => e = .returned (.int .i64 ((cap - F.total : Nat) : Int)) ∧ Below w'.heap.size w' w'' := fun w' hb => room_any (h.below hb)
  have HRM := Lib.hid hRM
  have H := Lib.hid h
  have HS := Lib.hid hs
  have HSZ := Lib.hid hsz.out
  have HL := Lib.hid hL
  have HFV := Lib.hid hF
  have HLK := Lib.hid hlk
  have HRB := Lib.hid hl
  have HF := Lib.hid hf
  have c1 : w.drew.cell? ⟨g, 1, none⟩ = some (.map (some m)) := h.c1
  have hl1 := hlk w.drew hL
  have hnn : n = l.length := hl.1.symm
  have HWR : Hid (IntKind.i64.wrap (((cap - F.total : Nat) : Int) + (n0 : Int)) = ((cap - F.total : Nat) : Int) + (n0 : Int)) := by show IntKind.i64.wrap _ = _; simp [IntKind.wrap, IntKind.bits, IntKind.signed]; omega
  have HNN := Lib.hid hnn
  clear h hs hL hF hv hr0 hlk hRM hl hsz hn0 hf hnn
  go_enter Tryz.func10, Tryz.ntmps10
  go_wp2_with fail
  refine (gone_ok H.out).mono ?_
  rintro e w' ⟨rfl, rfl⟩
  go_wp2_with fail
  refine (right_yes HS.out w).mono ?_
  rintro e w' ⟨rfl, rfl⟩
  go_upto_region 6 with fail
  go_cut [17] from 18 to 31 (fun v17 wx => v17 = .bool false ∧ Below w.heap.size w wx)
  case first => as_aux_lemma =>
    go_region_held (fun w' => w'.cell? ⟨g, 1, none⟩ = some (.map (some m)) ∧ (Instr.lookup 76 (.map (some m)) (.string s) false).run Tryz.prog w' = .ok (.agg #[.slice A0 n0 c0, .int .i64 (f.safe : Int), .bool f.ever]) w')
      (exact ⟨c1, hl1⟩)
      (first | (go_at_call 19; refine (HRM.out _ (Below.refl w.heap.size w).drew).mono ?_; rintro e w1 ⟨rfl, hb1⟩; have hbw := (Below.refl w.heap.size w).drew.trans hb1; have c1 := (H.out.below hbw).c1; have hl1 := HLK.out w1 (HL.out.below hbw); have HBW := Lib.hid hbw; clear hb1 hbw))
    all_goals
      go_wp2_with fail
      go_meet
      refine ⟨?_, HBW.out⟩
      first
        | rfl
        | (rw [HWR.out]
           have hx : decide (((cap - F.total : Nat) : Int) + (n0 : Int) < (n : Int)) = false := by simp; omega
           rw [hx])
  case rest =>
    obtain ⟨rfl, hbx⟩ := hcut
    have HBX := Lib.hid hbx
    have hD := (H.out.below hbx).drew
    obtain ⟨L2, hL2, hF2⟩ := hD.map
    have c1 : wc.drew.cell? ⟨g, 1, none⟩ = some (.map (some m)) := (H.out.below hbx).c1
    have hrc : RB wc A n l := HRB.out.below hbx
    have HRC : Hid (RB wc.drew A n l) := hrc
    have HD := Lib.hid hD
    have HL2 := Lib.hid hL2
    have HF2 := Lib.hid hF2
    clear hbx hl1 hD hL2 hF2 hrc
    go_wp2_with fail
    go_region_law (go_simp; go_at_call 26; refine (bclone A n c l _ HRC.out (by omega)).mono ?_; rintro e w5 ⟨B5, d5, rfl, hown5, hb5⟩; have HB5 := Lib.hid hb5; have HO5 := Lib.hid hown5; have c1 := cell_later hb5 c1; obtain ⟨w6, hrun, hm6, ho6⟩ := MapS.store (P := Tryz.prog) (HL2.out.below hb5) Tryz.underlying76 Tryz.underlying9 HSZ.out (.agg #[.slice B5 n d5, .int .i64 (n : Int), .bool true]); have HM6 := Lib.hid hm6; have HO6 := Lib.hid ho6; clear hown5 hb5 hm6 ho6)
    all_goals
      (try go_wp2_with fail)
      go_ret
      have hD5 := HD.out.below HB5.out
      have hfv : FileV w5 (.agg #[.slice B5 n d5, .int .i64 (n : Int), .bool true]) (safeF l) := ⟨B5, n, d5, by rw [HNN.out]; rfl, HO5.out.read, HO5.out.le⟩
      have hF5 : FilesV w5 L2 F := FilesV.keep HF2.out (Only.of_below HB5.out (fun _ => False)) (fun _ h => h.elim)
      have hD6 := DiskS.stored hD5 hF5 hfv HM6.out HO6.out (by
        show F.total + l.length ≤ _
        rw [← HNN.out]
        omega)
      refine ⟨rfl, _, hD6, Upd.put F s _, ?_⟩
      exact (Only.of_below HBX.out (DB g m)).drew.trans ((Only.of_below HB5.out (DB g m)).trans HO6.out (fun i _ e => .inr e)) (fun _ _ h => h)
end Go.Proofs.YtlhaempecidohaaGreatDoor
namespace Go.Proofs.YtlhaempecidohaaGreatDoor
open Go.RowKit
set_option maxHeartbeats 400000 in
theorem rfile_any (k r : ByteArray) (hk : k.size ≤ 100) (i : Nat) (h : i < 16) (hr : k ++ ⟨#[46]⟩ ++ ⟨((itoaB i).map UInt8.ofNat).toArray⟩ = r) (w : World) : Calls Tryz.prog 36 #[.string k, .int .i64 (i : Int)] w fun e w' => e = .returned (.string r) ∧ w' = w := by
  have hI := Tryz.strconv_Itoa_small i (by omega) w
  rw [digs16 i h] at hI
  have HL := Lib.hid hr
  have hl : (itoaB i).length ≤ 2 := by unfold itoaB; split <;> simp
  generalize itoaB i = l at hI HL hl
  have HI := Lib.hid hI
  clear hI hr
  obtain ⟨s, hs⟩ : ∃ s : ByteArray, s = ⟨(l.map UInt8.ofNat).toArray⟩ := ⟨_, rfl⟩
  have hsz : s.size ≤ 2 := by rw [hs]; show (l.map UInt8.ofNat).toArray.size ≤ 2; simpa using hl
  rw [← hs] at HI HL
  clear hs
  go_enter Tryz.func36, Tryz.ntmps36
  go_wp2_with fail
  refine HI.out.mono ?_
  rintro e w1 ⟨rfl, rfl⟩
  go_wp2_with fail
  go_ret
  exact ⟨by rw [← HL.out]; rfl, rfl⟩
set_option maxHeartbeats 400000 in
theorem cfile_any (k r : ByteArray) (hk : k.size ≤ 100) (i : Nat) (h : i < 16) (hr : k ++ ⟨#[46]⟩ ++ ⟨((itoaB i).map UInt8.ofNat).toArray⟩ = r) (w : World) : Calls Tryz.prog 75 #[.string k, .int .i64 (i : Int)] w fun e w' => e = .returned (.string r) ∧ w' = w := by
  have hI := Tryz.strconv_Itoa_small i (by omega) w
  rw [digs16 i h] at hI
  have HL := Lib.hid hr
  have hl : (itoaB i).length ≤ 2 := by unfold itoaB; split <;> simp
  generalize itoaB i = l at hI HL hl
  have HI := Lib.hid hI
  clear hI hr
  obtain ⟨s, hs⟩ : ∃ s : ByteArray, s = ⟨(l.map UInt8.ofNat).toArray⟩ := ⟨_, rfl⟩
  have hsz : s.size ≤ 2 := by rw [hs]; show (l.map UInt8.ofNat).toArray.size ≤ 2; simpa using hl
  rw [← hs] at HI HL
  clear hs
  go_enter Tryz.func75, Tryz.ntmps75
  go_wp2_with fail
  refine HI.out.mono ?_
  rintro e w1 ⟨rfl, rfl⟩
  go_wp2_with fail
  go_ret
  exact ⟨by rw [← HL.out]; rfl, rfl⟩
theorem bad_lit (s : ByteArray) : (⟨#[98, 97, 100, 46]⟩ : ByteArray) ++ ⟨((itoaB 0).map UInt8.ofNat).toArray⟩ ++ ⟨#[46]⟩ ++ s = badN s := by
  unfold badN
  rw [← str_ofStr (_ ++ s)]
  congr 1
/-- what Aside hands back -/
def AsideE (w : World) (g m cap : Nat) (F : DiskF) (s : ByteArray) (e : Ending) (w' : World) : Prop := Renamed w g m cap F s (badN s) e w'
set_option maxRecDepth 8000 in
set_option maxHeartbeats 1000000 in
theorem aside_any {w : World} {g m cap : Nat} {F : DiskF} (h : DiskS w g m cap F) (hN : Names Nm F) {s : ByteArray} (hs : s ∈ Nm0) {l : List Nat} (hf : AL.get F s = some (safeF l)) (hbad : AL.get F (badN s) = none) :
    Calls Tryz.prog 77 #[.pointer (some ⟨g, 0, none⟩), .string s] w (AsideE w g m cap F s) := by
  have hlen := hN.len h.nodup
  have hkl : (AL.keys F).length ≤ 1000000 := by unfold AL.keys; rw [List.length_map]; exact hlen
  have HNA := Lib.hid (names_any h hlen)
  have hsz := right_size (Nm_right s (Nm0_sub hs))
  have hI := fun w => Tryz.strconv_Itoa_small 0 (by omega) w
  rw [digs16 0 (by omega)] at hI
  have hl := bad_lit s
  obtain ⟨z, hz⟩ : ∃ z : ByteArray, z = ⟨((itoaB 0).map UInt8.ofNat).toArray⟩ := ⟨_, rfl⟩
  rw [← hz] at hI hl
  have hzs : z.size ≤ 2 := by rw [hz]; show ((itoaB 0).map UInt8.ofNat).toArray.size ≤ 2; decide
  have hI : ∀ w, Calls Tryz.prog 90 #[.int .i64 0] w fun e w' => e = .returned (.string z) ∧ w' = w := hI
  have HI := Lib.hid hI
  have HLT := Lib.hid hl
  have H := Lib.hid h
  have HF := Lib.hid hf
  have HBAD := Lib.hid hbad
  have HS := Lib.hid hs
  clear h hN hf hbad hlen hI hl hz hs
  go_enter Tryz.func77, Tryz.ntmps77
  go_wp2_with fail
  refine HNA.out.mono ?_
  rintro e w1 ⟨A, n, c, ns, rfl, hsr, hp, -, -, hb1⟩
  have hsc := scontains_any A n c (badN s) ns w1 hsr (by have := hp.length_eq; have := hsr.len; omega)
  rw [has_no hp HBAD.out] at hsc
  have hbin := bad_sub HS.out
  have hsy := safe_yes (H.out.below hb1) hsz HF.out
  rw [← HLT.out] at hsc
  have HSC := Lib.hid hsc
  have HSY := Lib.hid hsy
  have HBIN := Lib.hid hbin
  have HB1 := Lib.hid hb1
  clear hsr hp hb1 hsc HNA hsy hbin
  go_wp2_with fail
  go_loopw [6] (fun v6 wr => v6 = .int .i64 0 ∧ wr = w1) (fun _ _ => 0)
  case atStart => exact ⟨rfl, rfl⟩
  case round =>
    obtain ⟨rfl, rfl⟩ := hrel
    go_wp2_with fail
    refine (HI.out wr).mono ?_
    rintro e w2 ⟨rfl, rfl⟩
    go_wp2_with fail
    refine HSC.out.mono ?_
    rintro e w2' ⟨rfl, rfl⟩
    go_wp2_with fail
    refine HSY.out.mono ?_
    rintro e w3 ⟨rfl, hb3⟩
    have hb03 := HB1.out.trans (hb3.mono HB1.out.size)
    have hrn := rename_any (H.out.below hb03) hsz (Nm_right _ HBIN.out) (fun e => bad_ne HS.out e.symm) HF.out
    unfold Renamed at hrn
    have HRN : Hid (Calls Tryz.prog 102 #[.pointer (some ⟨g, 0, none⟩), .string s, .string (⟨#[98, 97, 100, 46]⟩ ++ z ++ ⟨#[46]⟩ ++ s)] w3 (Renamed w3 g m cap F s (badN s))) := by rw [HLT.out]; exact hrn
    have HB03 := Lib.hid hb03
    clear hb3 hb03 hrn
    go_wp2_with fail
    refine (HI.out w3).mono ?_
    rintro e w4 ⟨rfl, rfl⟩
    go_wp2_with fail
    refine HRN.out.mono ?_
    rintro e w5 ⟨rfl, F5, hd5, hm5, ho5⟩
    have HD5 := Lib.hid hd5
    have HM5 := Lib.hid hm5
    have HO5 := Lib.hid ((Only.of_below HB03.out (DB g m)).trans ho5 (fun _ _ h => h))
    clear hd5 hm5 ho5
    go_wp2_with fail
    go_ret
    exact ⟨rfl, F5, HD5.out, HM5.out, HO5.out⟩
end Go.Proofs.YtlhaempecidohaaGreatDoor
namespace Go.Proofs.YtlhaempecidohaaGreatDoor
open Go.RowKit
/-- what Open hands back -/
def OpenE (w : World) (g m cap : Nat) (F : DiskF) (bs : Boxes) (e : Ending) (w' : World) : Prop :=
  ∃ gs mm F', e = .returned (.tuple #[.pointer (some ⟨gs, 0, none⟩), .int .i64 0]) ∧ StoreS w' gs g m mm cap F' bs ∧ F'.total ≤ F.total + 1000 ∧ w.heap.size ≤ gs ∧ w.heap.size ≤ mm ∧ Only (DB g m) w w'
theorem Good.whole_at {w : World} {g m cap : Nat} {F : DiskF} {bs : Boxes} (hG : Good F bs none) (h : DiskS w g m cap F) {n : Nat} {b : BoxSt} (hb : (n, b) ∈ bs) (hE : Env w) :
    Calls Tryz.prog 35 #[.pointer (some ⟨g, 0, none⟩), .int .i64 (n : Int)] w (WhoE w b.box true) := by
  have h1 := whole_any h n (hG.few _ hb) b.ns b.f (hG.whole _ hb) (idxB b.idx) (hG.log _ hb) (hG.idx _ hb (.inr rfl)) (hG.flg _ hb) hE
  have e : decide (idxB (ofI (readS b.ns) (logB b.ns).length) = idxB b.idx) = true := decide_eq_true rfl
  rw [e] at h1
  exact h1
theorem numOf_snoc {bs : Boxes} {n : Nat} {b : BoxSt} (hnew : b.l.name ∉ bs.map fun p => p.2.l.name) (s : ByteArray) : numOf (bs ++ [(n, b)]) s = if s = b.l.name then some n else numOf bs s := by
  unfold numOf
  rw [List.find?_append]
  by_cases hs : s = b.l.name
  · subst hs
    have h0 : bs.find? (fun p => decide (p.2.l.name = b.l.name)) = none := by
      rw [List.find?_eq_none]
      intro p hp e
      exact hnew (List.mem_map.2 ⟨p, hp, of_decide_eq_true e⟩)
    rw [h0, if_pos rfl]
    simp
  · rw [if_neg hs]
    have h1 : [(n, b)].find? (fun p => decide (p.2.l.name = s)) = none := by
      rw [List.find?_eq_none]
      intro p hp e
      rw [List.mem_singleton.1 hp] at e
      exact hs (of_decide_eq_true e).symm
    rw [h1, Option.or_none]
theorem NamesM.snoc {L : AL Value} {bs : Boxes} (h : NamesM L bs) {n : Nat} {b : BoxSt} (hnew : b.l.name ∉ bs.map fun p => p.2.l.name) : NamesM (AL.put L b.l.name (.int .i64 (n : Int))) (bs ++ [(n, b)]) := fun s => by
  rw [AL.get_put, numOf_snoc hnew, h s]
  split <;> rfl
theorem take_apart {bs : Boxes} (hn : (bs.map fun p => p.2.l.name).Nodup) {i : Nat} {q : Nat × BoxSt} (hq : bs[i]? = some q) : bs.take (i + 1) = bs.take i ++ [q] ∧ q.2.l.name ∉ (bs.take i).map fun p => p.2.l.name := by
  obtain ⟨h1, h2⟩ := List.getElem?_eq_some_iff.1 hq
  have htk : bs.take (i + 1) = bs.take i ++ [q] := by rw [List.take_succ_eq_append_getElem h1, h2]
  refine ⟨htk, fun hm => ?_⟩
  have h1 := hn.sublist ((List.take_sublist (i + 1) bs).map _)
  rw [htk, List.map_append, List.nodup_append] at h1
  exact h1.2.2 _ hm _ (by simp) rfl
set_option maxRecDepth 10000 in
set_option maxHeartbeats 4000000 in
theorem open_any {w : World} {g m cap : Nat} {F : DiskF} {bs : Boxes} (h : DiskS w g m cap F) (hF : (F = [] ∧ 1000 ≤ cap ∧ bs = [(0, BoxSt.first inboxS)]) ∨ Rest F bs) (hE : Env w) (hg9 : 9 ≤ g ∧ 9 ≤ m) :
    Calls Tryz.prog 18 #[.pointer (some ⟨g, 0, none⟩)] w (OpenE w g m cap F bs) := by
  have hlen : F.length ≤ 1000000 := by
    rcases hF with ⟨rfl, -⟩ | hR
    · simp
    · exact hR.good.names.len h.nodup
  have HNA := Lib.hid (names_any h hlen)
  have HLO := Lib.hid (lost_no h)
  have H := Lib.hid h
  have HF := Lib.hid hF
  have HE := Lib.hid hE
  have HG9 := Lib.hid hg9
  clear h hF hE hlen hg9
  go_enter Tryz.func18, Tryz.ntmps18
  go_wp2_with fail
  refine HLO.out.mono ?_
  rintro e w0 ⟨rfl, rfl⟩
  go_wp2_with fail
  refine HNA.out.mono ?_
  rintro e w1 ⟨A, n, c, ns, rfl, hs, hp, -, -, hb1⟩
  have hnl : n = F.length := by
    have h1 := hp.length_eq
    have h2 := hs.len
    have h3 : (AL.keys F).length = F.length := by unfold AL.keys; rw [List.length_map]
    omega
  have HNL := Lib.hid hnl
  have HB1 := Lib.hid hb1
  clear hs hp hb1 hnl HNA HLO
  go_upto_if 23 with fail
  go_cut [] from 23 to 28 (fun wx => ∃ F', DiskS wx g m cap F' ∧ Rest F' bs ∧ F'.total ≤ F.total + 1000 ∧ Only (DB g m) w wx)
  case first => as_aux_lemma =>
    rcases HF.out with ⟨hF0, hc, hbs⟩ | hR
    · have hz : n = 0 := by rw [HNL.out, hF0]; rfl
      have HMD := Lib.hid (made_any (hF0 ▸ H.out.below HB1.out) (HE.out.below HB1.out) HG9.out hc)
      have HBS := Lib.hid hbs
      clear hF0 hbs
      subst hz
      go_wp2_with fail
      refine HMD.out.mono ?_
      rintro e w2 ⟨rfl, F2, hd2, hr2, ht2, ho2⟩
      have HD2 := Lib.hid hd2
      have HR2 := Lib.hid hr2
      have HO2 := Lib.hid ho2
      have HT2 := Lib.hid ht2
      clear hd2 hr2 ho2 ht2
      go_wp2_with fail
      go_meet
      exact ⟨F2, HD2.out, HBS.out ▸ HR2.out, Nat.le_trans HT2.out (Nat.le_add_left _ _), (Only.of_below HB1.out (DB g m)).trans HO2.out (fun _ _ h => h)⟩
    · have HR := Lib.hid hR
      have hnz : ((n : Int) == 0) = false := by
        obtain ⟨b0, r, e1, -⟩ := hR.good.first
        have h1 := hR.good.log (0, b0) (by rw [e1]; simp)
        have h2 := AL.get_some_mem h1
        have h3 := List.length_pos_of_mem h2
        rw [← HNL.out] at h3
        rw [beq_eq_false_iff_ne]
        omega
      clear hR
      go_wp2_with fail
      go_meet
      exact ⟨F, H.out.below HB1.out, HR.out, Nat.le_add_right _ _, Only.of_below HB1.out (DB g m)⟩
  case rest => as_aux_lemma =>
    obtain ⟨F', hd, hr, ht, ho⟩ := hcut
    have HTT := Lib.hid ht
    clear ht
    have hgood := hr.good
    have hE' : Env wc := HE.out.only ho (fun b e => by have := HG9.out; rcases e with e | e <;> omega)
    have hRT : Calls Tryz.prog 9 #[.pointer (some ⟨g, 0, none⟩), .string ⟨#[116, 114, 101, 101]⟩] wc (GotB wc (treeB bs.places)) :=
      read_yes hd (s := treeN) (by decide) hr.tree
    have h16 := hgood.len
    have HRT := Lib.hid hRT
    have HD := Lib.hid hd
    have HR := Lib.hid hr
    have HO := Lib.hid ho
    have HEC := Lib.hid hE'
    have HGD := Lib.hid hgood
    clear hd hr ho hgood hE' hRT H HF HE HB1 HNL
    go_wp2_with fail
    refine HRT.out.mono ?_
    rintro e w2 ⟨A2, c2, rfl, hown, hb2⟩
    have HGT := Lib.hid (getTree_any bs.places A2 _ c2 w2 hown.read hown.le HGD.out.treeOK (HEC.out.below hb2))
    have HB2 := Lib.hid hb2
    clear hown hb2 HRT
    generalize (treeB bs.places).length = tl at HGT ⊢
    go_wp2_with fail
    refine HGT.out.mono ?_
    rintro e w3 ⟨A3, n3, c3, rfl, hr3, hb3⟩
    have hbc3 := HB2.out.trans (hb3.mono HB2.out.size)
    have hn3 : bs.length = n3 := by have := hr3.len; rw [List.length_map] at this; unfold Boxes.places at this; rw [List.length_map] at this; exact this
    have HPL := Lib.hid (places_any (HD.out.below hbc3) HGD.out (HEC.out.below hbc3))
    have HB3 := Lib.hid hbc3
    have HR3 := Lib.hid hr3.read
    have HRL : Hid (∀ b, blk A3 = some b → b < w3.heap.size) := fun b hb => (hr3.lt b hb).2
    have HN3 : Hid (bs.length = n3) := hn3
    have hn16 : n3 ≤ 16 := by omega
    clear hr3 hb3 hbc3 hn3 HGT h16
    go_wp2_with fail
    refine HPL.out.mono ?_
    rintro e w4 ⟨A4, n4, c4, rfl, hr4, hb4⟩
    have hn4 : n4 = n3 := by have := hr4.len; rw [List.length_map] at this; unfold Boxes.places at this; rw [List.length_map, HN3.out] at this; exact this.symm
    subst hn4
    have HEQ := Lib.hid (placesEq_any A3 A4 n4 c3 c4 bs.places w4 (HR3.out.below hb4) hr4.read (by omega))
    have HB4 := Lib.hid (HB3.out.trans (hb4.mono HB3.out.size))
    have H34 : Hid (w3.heap.size ≤ w4.heap.size) := hb4.size
    have HR4 := Lib.hid (HR3.out.below hb4)
    clear hr4 hb4 HPL HR3
    go_wp2_with fail
    refine HEQ.out.mono ?_
    rintro e w5 ⟨rfl, hb5⟩
    have hbc5 := HB4.out.trans (hb5.mono HB4.out.size)
    have HST := Lib.hid (stray_no (HD.out.below hbc5) HGD.out HR.out.bare (HEC.out.below hbc5))
    have HB5 := Lib.hid hbc5
    have H45 : Hid (w4.heap.size ≤ w5.heap.size) := hb5.size
    have HR5 := Lib.hid (HR4.out.below hb5)
    clear hb5 hbc5 HEQ HR4
    go_wp2_with fail
    refine HST.out.mono ?_
    rintro e w6 ⟨rfl, hb6⟩
    have hmk : ∀ w, (Instr.makeMap 115 none).run Tryz.prog w = .ok (.map (some w.heap.size)) (w.alloc (.map #[] 0)) := fun w => by kernel_rfl
    obtain ⟨w8, hw8⟩ : ∃ w8, w8 = (w6.alloc (.map #[] 0)).alloc (.cells #[.pointer (some ⟨g, 0, none⟩), .map (some w6.heap.size)] 117) := ⟨_, rfl⟩
    have hb68 : Below w6.heap.size w6 w8 := by rw [hw8]; exact ((Below.refl _ _).alloc (Nat.le_refl _) _).alloc (by simp) _
    have hgs : w8.heap[w6.heap.size + 1]? = some (.cells #[.pointer (some ⟨g, 0, none⟩), .map (some w6.heap.size)] 117 (0, 0)) := by
      rw [hw8]
      have := heap_alloc_new (w6.alloc (.map #[] 0)) (.cells #[.pointer (some ⟨g, 0, none⟩), .map (some w6.heap.size)] 117)
      simpa using this
    have hms : MapS w8 w6.heap.size [] := by
      rw [hw8]
      exact (MapS.made w6).below ((Below.refl _ _).alloc (Nat.le_refl _) _)
    have hbc8 := HB5.out.trans ((hb6.trans (hb68.mono hb6.size)).mono HB5.out.size)
    have hlt6 : wc.heap.size ≤ w6.heap.size := Nat.le_trans HB5.out.size hb6.size
    have h36 : w3.heap.size ≤ w6.heap.size := Nat.le_trans (Nat.le_trans H34.out H45.out) hb6.size
    have hgm := (HD.out).lt
    have HW8 := Lib.hid hw8
    have HGS := Lib.hid hgs
    have HMS := Lib.hid hms
    have HB8 := Lib.hid hbc8
    have HR8 := Lib.hid ((HR5.out.below hb6).below hb68)
    have HD8 := Lib.hid (HD.out.below hbc8)
    have HE8 := Lib.hid (HEC.out.below hbc8)
    have hs8 : w8.heap.size = w6.heap.size + 2 := by rw [hw8]; simp
    have HS8 := Lib.hid hs8
    clear hb6 hw8 hb68 hgs hms hbc8 HST HR5 hs8
    go_upto_region 14 with fail
    rw [← HW8.out]
    clear hmk
    go_wp2_with fail
    go_loopw [58] (fun v58 wr => ∃ i : Nat, i ≤ n4 ∧ v58 = .int .i64 (i : Int) ∧ (∃ L, MapS wr w6.heap.size L ∧ NamesM L (bs.take i)) ∧ Only (fun q => q = w6.heap.size) w8 wr) (fun v58 _ => n4 - (intOf v58).toNat)
    case atStart => exact ⟨0, Nat.zero_le _, rfl, ⟨[], HMS.out, fun s => rfl⟩, Only.refl _ _⟩
    case round =>
      obtain ⟨i, hi, rfl, ⟨L, hL, hN⟩, ho⟩ := hrel
      by_cases hlt : i < n4
      · obtain ⟨q, hq⟩ : ∃ q, bs[i]? = some q := ⟨_, List.getElem?_eq_getElem (by rw [HN3.out]; exact hlt)⟩
        have hqm := List.mem_of_getElem? hq
        obtain ⟨gA, p, hA, hp, hc⟩ := (HR8.out.only ho (fun b hb e => by have h2 := HRL.out b hb; omega)).map hlt
        subst hA
        have hpq : p = (q.1, q.2.l.name) := by
          unfold Boxes.places at hp
          rw [List.getElem?_map, hq] at hp
          injection hp with hp
          exact hp.symm
        subst hpq
        obtain ⟨htk, hap⟩ := take_apart HGD.out.apart hq
        obtain ⟨k, b⟩ := q
        have hwh := HGD.out.whole _ hqm
        have hns : b.l.name.size ≤ maxLen := by have h60 : (readS b.ns).name.size ≤ 60 := readS_nsize hwh.formed; show (readS b.ns).name.size ≤ _; unfold maxLen; omega
        obtain ⟨d113, hu, hd⟩ := rowT row113
        unfold placeV at hc
        dsimp only at hc
        obtain ⟨wa, hwa⟩ : ∃ wa, wa = wr.alloc (.cells #[.int .i64 (k : Int), .string b.l.name] 113) := ⟨_, rfl⟩
        have hba : Below wr.heap.size wr wa := by rw [hwa]; exact (Below.refl _ _).alloc (Nat.le_refl _) _
        have hga : wa.heap[wr.heap.size]? = some (.cells #[.int .i64 (k : Int), .string b.l.name] 113 (0, 0)) := by rw [hwa]; exact heap_alloc_new wr _
        have hoa : Only (fun q => q = w6.heap.size) w8 wa := ho.trans (Only.of_below hba _) (fun _ _ h => h)
        have hnb : ∀ b, b = w6.heap.size → NoB w8 b := fun b e => by
          obtain ⟨es, cl, hm, -⟩ := HMS.out
          rw [e]
          exact NoB.map hm
        have hWh := HGD.out.whole_at (HD8.out.only hoa hnb (by omega) (by omega)) hqm (HE8.out.only hoa (fun b e => by have := HG9.out; omega))
        unfold WhoE at hWh
        simp only [if_true] at hWh
        generalize b.box = bx at hWh
        have a0 := cell_of_row wa _ 0 _ _ _ hga
        have a1 := cell_of_row wa _ 1 _ _ _ hga
        have hsz : w8.heap.size ≤ wr.heap.size := ho.size
        have HU := Lib.hid hu
        have HDD := Lib.hid hd
        have HC := Lib.hid hc
        have HWH := Lib.hid hWh
        have HWA := Lib.hid hwa
        have HBA := Lib.hid hba
        have HTK := Lib.hid htk
        have HAP := Lib.hid hap
        have HNS : Hid (b.l.name.size ≤ maxLen) := hns
        have HL := Lib.hid hL
        have HNM := Lib.hid hN
        have HOR := Lib.hid ho
        clear hp hqm hq hwh hns hu hd hc hwa hba hga hoa hnb hWh htk hap hL hN ho
        go_upto_region 17 with (refine wpList_load_mid rfl 113 (.tmp 60) rfl gA (i * 2) rfl _ d113 HC.out HU.out HDD.out size113 ?_)
        rw [← HWA.out]
        go_wp2_with fail
        refine HWH.out.mono ?_
        rintro e w9 ⟨A9, n9, c9, vs9, rfl, -, -, hb9⟩
        obtain ⟨wb, hwb⟩ : ∃ wb, wb = w9.alloc (.cells (boxCells bx.name bx.epoch bx.next (.slice A9 n9 c9)).toArray 49) := ⟨_, rfl⟩
        have hbb : Below wa.heap.size wa wb := by rw [hwb]; exact hb9.trans ((Below.refl _ _).alloc hb9.size _)
        unfold boxCells at hwb
        have hb0 := HBA.out.trans (hbb.mono HBA.out.size)
        have a0 := cell_later hbb a0
        have a1 := cell_later hbb a1
        have c1 : wb.cell? ⟨w6.heap.size + 1, 1, none⟩ = some (.map (some w6.heap.size)) := cell_of_row wb _ 1 _ _ _ (((HOR.out.trans (Only.of_below hb0 _) (fun _ _ h => h)).heap HGS.out (by omega)))
        have HLB := Lib.hid (HL.out.below hb0)
        have HB0 := Lib.hid hb0
        have HWB := Lib.hid hwb
        clear hb9 hwb hbb hb0
        unfold boxCells
        go_upto_region 20 with fail
        rw [← HWB.out]
        go_still_tail 8, (by kernel_rfl)
        change wpList _ _ _ _ _ wb.drew
        go_wp2_with (at_mapUpdate; refine wpList_mstore _ rfl (.tmp 74) (.tmp 76) (.tmp 78) 115 rfl 9 3 Tryz.underlying115 Tryz.underlying9 w6.heap.size L rfl HLB.out b.l.name rfl HNS.out _ rfl ?_; intro w5 hm5 ho5)
        refine ⟨⟨i + 1, hlt, by first | rfl | (congr 1), ⟨_, hm5, ?_⟩, ?_⟩, by simp [intOf]; omega⟩
        · rw [HTK.out]
          exact HNM.out.snoc HAP.out
        · exact (HOR.out.trans (Only.of_below HB0.out _) (fun _ _ h => h)).drew.trans ho5 (fun _ _ h => h)
      · obtain rfl : i = n4 := by omega
        have htk : bs.take i = bs := List.take_of_length_le (by rw [HN3.out]; exact Nat.le_refl _)
        rw [htk] at hN
        have HL := Lib.hid hL
        have HNM := Lib.hid hN
        have HOR := Lib.hid ho
        clear htk hL hN ho
        go_wp2_with fail
        go_ret2
        have hg9 := HG9.out
        have hnb : ∀ b, b = w6.heap.size → NoB w8 b := fun b e => by
          obtain ⟨es, cl, hm, -⟩ := HMS.out
          rw [e]
          exact NoB.map hm
        have hsw : w.heap.size ≤ wc.heap.size := HO.out.size
        refine ⟨w6.heap.size + 1, w6.heap.size, F', rfl, ⟨HOR.out.heap HGS.out (by omega), ⟨L, HL.out, HNM.out⟩, HD8.out.only HOR.out hnb (by omega) (by omega), HR.out, ⟨hg9.1, hg9.2, by omega⟩, ⟨by omega, by omega, by omega, by omega, by omega⟩⟩, HTT.out, by omega, by omega, ?_⟩
        exact HO.out.trans ((Only.of_below HB8.out (DB g m)).trans (HOR.out) (fun q hq e => by have := HS8.out; omega)) (fun _ _ h => h)
end Go.Proofs.YtlhaempecidohaaGreatDoor
namespace Go.Proofs.YtlhaempecidohaaGreatDoor
open Go.RowKit
theorem rmark_clo (e m : Nat × Int) (h : e.1 = m.1) (w : World) :
    Calls Tryz.prog 96 #[.agg (markV e).toArray, .agg (markV m).toArray] w fun e w' => e = .returned (.bool true) ∧ Below w.heap.size w w' := by
  have hb0 : Below w.heap.size w ((w.alloc (.cells (markV e).toArray 160)).alloc (.cells (markV m).toArray 160)) := ((Below.refl _ _).alloc (Nat.le_refl _) _).alloc (by simp) _
  unfold markV at hb0 ⊢
  rw [h] at hb0 ⊢
  have HB := Lib.hid hb0
  clear hb0
  go_enter Tryz.func96, Tryz.ntmps96
  go_wp2
  go_ret
  exact ⟨rfl, HB.out⟩
set_option maxRecDepth 8000 in
set_option maxHeartbeats 2000000 in
theorem equalMarks_any (A B : Option Addr) (n c d : Nat) (es ms : List (Nat × Int)) (w : World) (h1 : RowR w A n 2 (es.map markV)) (h2 : RowR w B n 2 (ms.map markV)) (hn : n ≤ 10000000) (hu : es.map (·.1) = ms.map (·.1)) :
    Calls Tryz.prog 95 #[.slice A n c, .slice B n d, .func (Fn.func 96) #[] #[]] w fun e w' => e = .returned (.bool true) ∧ Below w.heap.size w w' := by
  have H1 := Lib.hid h1
  have H2 := Lib.hid h2
  have HU := Lib.hid hu
  clear h1 h2 hu
  go_enter Tryz.func95, Tryz.ntmps95
  go_wp2_with fail
  go_loopw [17] (fun v17 wr => ∃ i : Nat, i ≤ n ∧ v17 = .int .i64 (i : Int) ∧ Below w.heap.size w wr) (fun v17 _ => n - (intOf v17).toNat)
  case atStart => exact ⟨0, Nat.zero_le _, rfl, Below.refl _ _⟩
  case round =>
    obtain ⟨i, hi, rfl, hb⟩ := hrel
    have HB := Lib.hid hb
    clear hb
    by_cases hlt : i < n
    · obtain ⟨g1, x, rfl, hx, hc1⟩ := (H1.out.below HB.out).map hlt
      obtain ⟨d160, hu1, hd1⟩ := rowT row160
      obtain ⟨wa, hwa⟩ : ∃ wa, wa = wr.alloc (.cells #[.int .u32 (x.1 : Int), .int .i64 x.2] 160) := ⟨_, rfl⟩
      have hba : Below wr.heap.size wr wa := by rw [hwa]; exact (Below.refl _ _).alloc (Nat.le_refl _) _
      obtain ⟨g2, y, rfl, hy, hc2⟩ := ((H2.out.below HB.out).below hba).map hlt
      obtain ⟨wb, hwb⟩ : ∃ wb, wb = wa.alloc (.cells #[.int .u32 (y.1 : Int), .int .i64 y.2] 160) := ⟨_, rfl⟩
      have hbb : Below wa.heap.size wa wb := by rw [hwb]; exact (Below.refl _ _).alloc (Nat.le_refl _) _
      have hxy : x.1 = y.1 := by
        have h1 : (es.map (·.1))[i]? = some x.1 := by rw [List.getElem?_map, hx]; rfl
        rw [HU.out, List.getElem?_map, hy] at h1
        injection h1 with h1
        exact h1.symm
      have hcl := rmark_clo x y hxy wb
      have a0 : wb.cell? ⟨wr.heap.size, 0, none⟩ = some (.int .u32 (x.1 : Int)) := cell_later hbb (by rw [hwa]; exact cell_new wr _ 160 rfl)
      have a1 : wb.cell? ⟨wr.heap.size, 1, none⟩ = some (.int .i64 x.2) := cell_later hbb (by rw [hwa]; exact cell_new wr _ 160 rfl)
      have b0 : wb.cell? ⟨wa.heap.size, 0, none⟩ = some (.int .u32 (y.1 : Int)) := by rw [hwb]; exact cell_new wa _ 160 rfl
      have b1 : wb.cell? ⟨wa.heap.size, 1, none⟩ = some (.int .i64 y.2) := by rw [hwb]; exact cell_new wa _ 160 rfl
      unfold markV at hcl hc1 hc2
      have HC1 := Lib.hid hc1
      have HC2 := Lib.hid hc2
      have HU1 := Lib.hid hu1
      have HD1 := Lib.hid hd1
      have HCL := Lib.hid hcl
      have HWA := Lib.hid hwa
      have HWB := Lib.hid hwb
      have HBW := Lib.hid (HB.out.trans ((hba.trans (hbb.mono hba.size)).mono HB.out.size))
      clear hx hy hc1 hc2 hu1 hd1 hcl hwa hwb hba hbb hxy
      go_upto_region 6 with (refine wpList_load_mid rfl 160 (.tmp 20) rfl g1 (i * 2) rfl _ d160 HC1.out HU1.out HD1.out size160 ?_)
      rw [← HWA.out]
      go_upto_region 7 with (refine wpList_load_mid rfl 160 (.tmp 24) rfl g2 (i * 2) rfl _ d160 HC2.out HU1.out HD1.out size160 ?_)
      rw [← HWB.out]
      go_wp2_with fail
      refine HCL.out.mono ?_
      rintro e w5 ⟨rfl, hb5⟩
      have HB5 := Lib.hid (HBW.out.trans (hb5.mono HBW.out.size))
      clear hb5 a0 a1 b0 b1
      go_wp2_with fail
      exact ⟨⟨i + 1, hlt, by first | rfl | (congr 1), HB5.out⟩, by simp [intOf]; omega⟩
    · go_wp2_with fail
      go_ret
      exact ⟨rfl, HB.out⟩
/-- what pages hands back: the flags; the index stands aside -/
def PagedE (w : World) (g m cap : Nat) (F : DiskF) (fl : List (Nat × Int)) (e : Ending) (w' : World) : Prop :=
  ∃ A n c F', e = .returned (.tuple #[.slice A n c, .int .i64 0]) ∧ RowR w' A n 2 (fl.map markV) ∧ DiskS w' g m cap F' ∧ Moved F F' (idxN 0) (badN (idxN 0)) ∧ Only (DB g m) w w'
set_option maxRecDepth 10000 in
set_option maxHeartbeats 8000000 in
theorem rpages_any {w : World} {g m cap : Nat} {F : DiskF} {bs : Boxes} {b : List Nat} (h : DiskS w g m cap F) (hG : Good F bs (some b)) {B : BoxSt} (hB : (0, B) ∈ bs) (hne : idxB B.idx ≠ b) (hbad : AL.get F (badN (idxN 0)) = none) (hE : Env w) (hg9 : 9 ≤ g ∧ 9 ≤ m)
    (A : Option Addr) (n c : Nat) (vs : List (List Value)) (hr : RowR w A n 6 vs) (hx : All2 (LiveR w) vs (readS B.ns).live) :
    Calls Tryz.prog 38 #[.pointer (some ⟨g, 0, none⟩), .int .i64 0, .agg (logCells (readS B.ns) (.slice A n c) ((logB B.ns).length : Int) true).toArray, .bool true] w (PagedE w g m cap F B.f.L) := by
  have hW : Whole B.ns B.f := hG.whole _ hB
  have h16 : (0 : Nat) < 16 := by decide
  obtain ⟨r1, r2, r3⟩ := names_right 0 h16
  have hok := readS_ok hW.formed
  obtain ⟨p1, p2, p3, p4, p5, p6⟩ := hW.parts
  obtain ⟨T, hT⟩ : ∃ T, (logB B.ns).length = T := ⟨_, rfl⟩
  obtain ⟨X, hX⟩ : ∃ X, ofI (readS B.ns) (logB B.ns).length = X := ⟨_, rfl⟩
  have hXr : rightIdx X = true := by rw [← hX]; exact hW.idx
  have hXw : X.wf := by rw [← hX]; exact ofI_wf _ hok
  have hXn : X.name.size ≤ 1000000 := by rw [← hX]; exact ofI_name _ (by have := readS_nsize hW.formed; omega)
  have hXL : X.L.length ≤ 500 := (idx_all hXr).2.2.2
  have hne' : idxB X ≠ b := by rw [← hX]; exact hne
  have hfe : B.f.epoch = (readS B.ns).epoch := hW.epoch
  have huid : B.f.L.map (·.1) = (ofF (readS B.ns)).L.map (·.1) := by rw [hW.uids, hW.ofF]; simp
  have hcl := hW.clean
  have hlive := p5
  obtain ⟨L, hL⟩ : ∃ L, readS B.ns = L := ⟨_, rfl⟩
  rw [hL] at hok hX hfe huid hcl hx hlive ⊢
  rw [hT] at hX ⊢
  obtain ⟨ws, hws⟩ : ∃ ws, ws = w.alloc (.cells (logCells L (.slice A n c) (T : Int) true).toArray 87) := ⟨_, rfl⟩
  have hbs : Below w.heap.size w ws := by rw [hws]; exact (Below.refl _ _).alloc (Nat.le_refl _) _
  have hg6 : ws.heap[w.heap.size]? = some (.cells (logCells L (.slice A n c) (T : Int) true).toArray 87 (0, 0)) := by rw [hws]; exact heap_alloc_new w _
  have hn : n = L.live.length := by rw [← hx.length]; exact hr.len.symm
  have hd := h.below hbs
  have HR3 := Lib.hid (read_yes hd (s := flgN 0) (right_size r3) (hG.flg _ hB))
  have HR2 : Hid (∀ w', Below ws.heap.size ws w' → Calls Tryz.prog 9 #[.pointer (some ⟨g, 0, none⟩), .string (idxN 0)] w' (GotB w' b)) := fun w' hb => read_yes (hd.below hb) (right_size r2) (hG.idx0 b rfl)
  have HAS : Hid (∀ w', Below ws.heap.size ws w' → Calls Tryz.prog 77 #[.pointer (some ⟨g, 0, none⟩), .string (idxN 0)] w' (AsideE w' g m cap F (idxN 0))) := fun w' hb => aside_any (hd.below hb) hG.names (names_in 0 h16).2.1 (hG.idx0 b rfl) hbad
  have HF3 : Hid (∀ w, Calls Tryz.prog 36 #[.string ⟨#[102, 108, 103]⟩, .int .i64 0] w fun e w' => e = .returned (.string (flgN 0)) ∧ w' = w) := fun w => rfile_any ⟨#[102, 108, 103]⟩ (flgN 0) (by decide) 0 h16 (flgN_lit 0 h16) w
  have HF2 : Hid (∀ w, Calls Tryz.prog 36 #[.string ⟨#[105, 100, 120]⟩, .int .i64 0] w fun e w' => e = .returned (.string (idxN 0)) ∧ w' = w) := fun w => rfile_any ⟨#[105, 100, 120]⟩ (idxN 0) (by decide) 0 h16 (idxN_lit 0 h16) w
  have HFR := Lib.hid hW.flg
  have HFW := Lib.hid hW.fwf
  have HX := Lib.hid hX
  have HXR := Lib.hid hXr
  have HXW := Lib.hid hXw
  have HXN := Lib.hid hXn
  have HXL := Lib.hid hXL
  have HNE := Lib.hid hne'
  have HFE := Lib.hid hfe
  have HUI := Lib.hid huid
  have HG6 := Lib.hid hg6
  have HWS := Lib.hid hws
  have HBS := Lib.hid hbs
  have HE := Lib.hid (hE.below hbs)
  have HLV := Lib.hid hlive
  have HROW := Lib.hid (hr.below hbs)
  have HALL := Lib.hid (hx.mono (LiveR.below hbs))
  have HCL := Lib.hid hcl
  have HN := Lib.hid hn
  have HDD := Lib.hid hd
  have hgm := h.lt
  obtain ⟨f, hf⟩ : ∃ f, B.f = f := ⟨_, rfl⟩
  rw [hf] at HR3 HFR HFW HFE HUI ⊢
  unfold logCells at HWS HG6 ⊢
  clear hws hg6 h hG hB hne hbad hE hr hx hW r1 r2 r3 hok p1 p2 p3 p4 p5 p6 hX hXr hXw hXn hXL hne' hfe huid hcl hlive hbs hn hd hf hT hL
  go_enter Tryz.func38, Tryz.ntmps38
  go_upto_region 1 with fail
  rw [← HWS.out]
  go_wp2_with fail
  refine (HF3.out ws).mono ?_
  rintro e w1 ⟨rfl, hw1⟩
  rw [hw1]
  clear hw1 w1
  go_wp2_with fail
  refine HR3.out.mono ?_
  rintro e w1 ⟨A1, c1, rfl, hown1, hb1⟩
  have HGF := Lib.hid (getFlg_any f A1 (flgB f).length c1 w1 hown1.read hown1.le HFR.out HFW.out)
  have HB1 := Lib.hid hb1
  clear hown1 hb1 HR3
  go_wp2_with fail
  refine HGF.out.mono ?_
  rintro e w2 ⟨A2, k2, c2, rfl, hr2, hb2⟩
  obtain ⟨w3, hw3⟩ : ∃ w3, w3 = w2.alloc (.cells (flgCells f (.slice A2 k2 c2)).toArray 151) := ⟨_, rfl⟩
  have hb23 : Below w2.heap.size w2 w3 := by rw [hw3]; exact (Below.refl _ _).alloc (Nat.le_refl _) _
  have hg12 : w3.heap[w2.heap.size]? = some (.cells (flgCells f (.slice A2 k2 c2)).toArray 151 (0, 0)) := by rw [hw3]; exact heap_alloc_new w2 _
  have hk2 : f.L.length = k2 := by have := hr2.len; rwa [List.length_map] at this
  have hb03 := HB1.out.trans ((hb2.trans (hb23.mono hb2.size)).mono HB1.out.size)
  have hg63 := (hb03.block _ (Array.getElem?_eq_some_iff.1 HG6.out).1).trans HG6.out
  have hOf := of_any L A n c vs T true w3 (HROW.out.below hb03) (HALL.out.mono (LiveR.below hb03)) (by have := HN.out; have := HLV.out; omega) HCL.out.symm
  have HR2F := Lib.hid (hr2.below hb23)
  have hr2l : ∀ q, blk A2 = some q → w.heap.size ≤ q := fun q hq => Nat.le_trans (Nat.le_trans HBS.out.size HB1.out.size) (hr2.lt q hq).1
  have HR2L := Lib.hid hr2l
  unfold flgCells at hw3 hg12
  unfold logCells at hOf
  have HOF := Lib.hid hOf
  have HG63 := Lib.hid hg63
  have HG12 := Lib.hid hg12
  have HB3 := Lib.hid hb03
  have HW3 := Lib.hid hw3
  have HK2 := Lib.hid hk2
  have h12 : w.heap.size ≤ w2.heap.size := Nat.le_trans HBS.out.size (Nat.le_trans HB1.out.size hb2.size)
  have d0 := cell_of_row w3 _ 0 _ _ _ hg63
  have d1 := cell_of_row w3 _ 1 _ _ _ hg63
  have d2 := cell_of_row w3 _ 2 _ _ _ hg63
  have d3 := cell_of_row w3 _ 3 _ _ _ hg63
  have d4 := cell_of_row w3 _ 4 _ _ _ hg63
  have d5 := cell_of_row w3 _ 5 _ _ _ hg63
  clear hr2 hb2 hw3 hb23 hg12 hk2 hb03 hg63 hOf hr2l HGF
  unfold flgCells
  go_upto_region 3 with fail
  rw [← HW3.out]
  go_wp2_with fail
  refine HOF.out.mono ?_
  rintro e w5 hE5
  unfold OfE at hE5
  rw [HX.out] at hE5
  obtain ⟨A5, c5, A6, c6, m5, rfl, hr5, hr6, hb5⟩ := hE5
  have hm5 : X.L.length = m5 := by have := hr5.len; rwa [List.length_map] at this
  have hkm : k2 = m5 := by
    have h1 := congrArg List.length HUI.out
    rw [List.length_map, List.length_map, HK2.out] at h1
    have h2 := hr6.len
    rw [List.length_map] at h2
    omega
  obtain ⟨w6, hw6⟩ : ∃ w6, w6 = (w5.alloc (.cells (idxCells X (.slice A5 m5 c5)).toArray 149)).alloc (.cells (flgCells (ofF L) (.slice A6 m5 c6)).toArray 151) := ⟨_, rfl⟩
  have hb56 : Below w5.heap.size w5 w6 := by rw [hw6]; exact ((Below.refl _ _).alloc (Nat.le_refl _) _).alloc (by simp) _
  have hg14 : w6.heap[w5.heap.size]? = some (.cells (idxCells X (.slice A5 m5 c5)).toArray 149 (0, 0)) := by
    rw [hw6, Below.heap_alloc _ _ _ (by simp)]; exact heap_alloc_new w5 _
  have hg15 : w6.heap[w5.heap.size + 1]? = some (.cells (flgCells (ofF L) (.slice A6 m5 c6)).toArray 151 (0, 0)) := by
    rw [hw6]
    have := heap_alloc_new (w5.alloc (.cells (idxCells X (.slice A5 m5 c5)).toArray 149)) (.cells (flgCells (ofF L) (.slice A6 m5 c6)).toArray 151)
    rwa [World.size_alloc] at this
  have hb36 := hb5.trans (hb56.mono hb5.size)
  have hb06 := HB3.out.trans (hb36.mono HB3.out.size)
  have hQ := equalMarks_any A2 A6 k2 c2 c6 f.L (ofF L).L w6 (HR2F.out.below hb36).read (hkm ▸ (hr6.below hb56).read) (by have := HXL.out; omega) HUI.out
  have hPI := putIdx_any X A5 m5 c5
  have hQ' : Calls Tryz.prog 95 #[.slice A2 k2 c2, .slice A6 m5 c6, .func (Fn.func 96) #[] #[]] w6 fun e w' => e = .returned (.bool true) ∧ Below w6.heap.size w6 w' := by rw [← hkm]; exact hQ
  have HQ := Lib.hid hQ'
  have hg63 := (hb36.block _ (Array.getElem?_eq_some_iff.1 HG63.out).1).trans HG63.out
  have hg12 := (hb36.block _ (Array.getElem?_eq_some_iff.1 HG12.out).1).trans HG12.out
  unfold flgCells idxCells at hw6
  unfold idxCells at hg14
  unfold flgCells at hg15
  have HG14 := Lib.hid hg14
  have HG63' := Lib.hid hg63
  have HG12' := Lib.hid hg12
  have HB6 := Lib.hid hb06
  have HW6 := Lib.hid hw6
  have HR5 := Lib.hid (hr5.below hb56).read
  have HR2F' := Lib.hid (HR2F.out.below hb36)
  have HM5 := Lib.hid hm5
  have h25 : w2.heap.size ≤ w5.heap.size := by have h1 := (Array.getElem?_eq_some_iff.1 HG12.out).1; have := hb5.size; omega
  have e1 : ((f.epoch : Int) == (L.epoch : Int)) = true := by rw [HFE.out]; simp
  have e2 : ((f.epoch : Int) != (L.epoch : Int)) = false := by rw [HFE.out]; simp
  have f0 : w6.cell? ⟨w2.heap.size, 0, none⟩ = some (.int .u32 (f.epoch : Int)) := cell_of_row w6 _ 0 _ _ _ hg12
  have f1 : w6.cell? ⟨w2.heap.size, 1, none⟩ = some (.slice A2 k2 c2) := cell_of_row w6 _ 1 _ _ _ hg12
  have o1 : w6.cell? ⟨w5.heap.size + 1, 1, none⟩ = some (.slice A6 m5 c6) := cell_of_row w6 _ 1 _ _ _ hg15
  have d1 := cell_of_row w6 _ 1 _ _ _ hg63
  clear hr5 hr6 hb5 hm5 hkm hw6 hb56 hg14 hg15 hb36 hb06 hQ hQ' hg63 hg12 hPI HOF HR2F d0 d2 d3 d4 d5
  unfold idxCells flgCells
  go_upto_region 4 with fail
  rw [← HW6.out]
  go_wp2_with fail
  refine HQ.out.mono ?_
  rintro e w7 ⟨rfl, hb7⟩
  have hb07 := HB6.out.trans (hb7.mono HB6.out.size)
  have HR27 := Lib.hid (HR2F'.out.below hb7)
  have HR57 := Lib.hid (HR5.out.below hb7)
  have HG147 := Lib.hid ((hb7.block _ (Array.getElem?_eq_some_iff.1 HG14.out).1).trans HG14.out)
  have HG637 := Lib.hid ((hb7.block _ (Array.getElem?_eq_some_iff.1 HG63'.out).1).trans HG63'.out)
  have HG127 := Lib.hid ((hb7.block _ (Array.getElem?_eq_some_iff.1 HG12'.out).1).trans HG12'.out)
  have HB7 := Lib.hid hb07
  clear hb7 hb07 f0 f1 o1 d1 HQ HR2F' HR5 HG14 HG63' HG12'
  go_wp2_with fail
  refine (HF2.out w7).mono ?_
  rintro e w8 ⟨rfl, hw8⟩
  rw [hw8]
  clear hw8 w8
  go_wp2_with fail
  refine (HR2.out w7 HB7.out).mono ?_
  rintro e w8 ⟨A8, c8, rfl, hown8, hb8⟩
  have hb08 := HB7.out.trans (hb8.mono HB7.out.size)
  have hPI := putIdx_any X A5 m5 c5 w8 (HR57.out.below hb8) (by have := HXL.out; have := HM5.out; omega) HXN.out HXW.out (HE.out.below hb08)
  unfold PutI at hPI
  simp only [HXR.out, if_true] at hPI
  unfold idxCells at hPI
  have hg14 := (hb8.block _ (Array.getElem?_eq_some_iff.1 HG147.out).1).trans HG147.out
  have HPI := Lib.hid hPI
  have HP8 := Lib.hid hown8.read
  have HB8 := Lib.hid hb08
  have HG638 := Lib.hid ((hb8.block _ (Array.getElem?_eq_some_iff.1 HG637.out).1).trans HG637.out)
  have HG128 := Lib.hid ((hb8.block _ (Array.getElem?_eq_some_iff.1 HG127.out).1).trans HG127.out)
  have HR28 := Lib.hid (HR27.out.below hb8)
  have i0 : w8.cell? ⟨w5.heap.size, 0, none⟩ = some (.string X.name) := cell_of_row w8 _ 0 _ _ _ hg14
  have i1 : w8.cell? ⟨w5.heap.size, 1, none⟩ = some (.int .u32 (X.epoch : Int)) := cell_of_row w8 _ 1 _ _ _ hg14
  have i2 : w8.cell? ⟨w5.heap.size, 2, none⟩ = some (.int .u32 (X.next : Int)) := cell_of_row w8 _ 2 _ _ _ hg14
  have i3 : w8.cell? ⟨w5.heap.size, 3, none⟩ = some (.int .i64 (X.upto : Int)) := cell_of_row w8 _ 3 _ _ _ hg14
  have i4 : w8.cell? ⟨w5.heap.size, 4, none⟩ = some (.slice A5 m5 c5) := cell_of_row w8 _ 4 _ _ _ hg14
  clear hown8 hb8 hb08 hPI hg14 HG147 HG637 HG127 HR27
  go_wp2_with fail
  refine HPI.out.mono ?_
  rintro e w9 ⟨A9, n9, c9, rfl, hown9, hb9⟩
  have hb09 := HB8.out.trans (hb9.mono HB8.out.size)
  have hEQ := equal_any A8 A9 b.length c8 n9 c9 b (idxB X) w9 (HP8.out.below hb9) hown9.read
  rw [show decide (b = idxB X) = false from decide_eq_false (fun e => HNE.out e.symm)] at hEQ
  have HEQ := Lib.hid hEQ
  have HB9 := Lib.hid hb09
  have HG639 := Lib.hid ((hb9.block _ (Array.getElem?_eq_some_iff.1 HG638.out).1).trans HG638.out)
  have HG129 := Lib.hid ((hb9.block _ (Array.getElem?_eq_some_iff.1 HG128.out).1).trans HG128.out)
  have HR29 := Lib.hid (HR28.out.below hb9)
  clear hown9 hb9 hb09 hEQ i0 i1 i2 i3 i4 HPI HP8 HG638 HG128 HR28
  go_wp2_with fail
  refine HEQ.out.mono ?_
  rintro e w10 ⟨rfl, hw10⟩
  rw [hw10]
  clear hw10 w10
  go_wp2_with fail
  refine (HF2.out w9).mono ?_
  rintro e w10 ⟨rfl, hw10⟩
  rw [hw10]
  clear hw10 w10
  go_wp2_with fail
  refine (HAS.out w9 HB9.out).mono ?_
  rintro e w10 ⟨rfl, F', hd10, hm10, ho10⟩
  have hnd : ∀ q, w.heap.size ≤ q → ¬ DB g m q := fun q hq e => by rcases e with e | e <;> omega
  have hg6 := ho10.heap HG639.out (hnd _ (Nat.le_refl _))
  have hg12 := ho10.heap HG129.out (hnd _ h12)
  have hr2 := HR29.out.read.only ho10 (fun q hq => hnd q (HR2L.out q hq))
  have f0 : w10.cell? ⟨w2.heap.size, 0, none⟩ = some (.int .u32 (f.epoch : Int)) := cell_of_row w10 _ 0 _ _ _ hg12
  have f1 : w10.cell? ⟨w2.heap.size, 1, none⟩ = some (.slice A2 k2 c2) := cell_of_row w10 _ 1 _ _ _ hg12
  have d1 := cell_of_row w10 _ 1 _ _ _ hg6
  have d5 := cell_of_row w10 _ 5 _ _ _ hg6
  have HD10 := Lib.hid hd10
  have HM10 := Lib.hid hm10
  have HO10 := Lib.hid ((Only.of_below (HBS.out.trans (HB9.out.mono HBS.out.size)) (DB g m)).trans ho10 (fun _ _ h => h))
  have HR10 := Lib.hid hr2
  clear hd10 hm10 ho10 hnd hg6 hg12 hr2
  go_wp2_with fail
  go_ret2
  exact ⟨A2, k2, c2, F', rfl, HR10.out, HD10.out, HM10.out, HO10.out⟩
end Go.Proofs.YtlhaempecidohaaGreatDoor
