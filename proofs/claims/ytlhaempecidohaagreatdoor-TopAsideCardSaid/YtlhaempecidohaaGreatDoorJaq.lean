/-
  Package disk: Names. Package disk: New.
-/
import Derived.CallsIn
import Derived.TacticsIn
import Derived.Test.YtlhaempecidohaaGreatDoorJap
import Derived.Test.YtlhaempecidohaaGreatDoorJaf
set_option linter.unusedSimpArgs false
set_option linter.unusedVariables false
namespace Go.Proofs.YtlhaempecidohaaGreatDoor
open Go.RowKit
/-- A slice of texts, read. -/
structure SRow (w : World) (A : Option Addr) (n : Nat) (ns : List ByteArray) : Prop where
  len : ns.length = n
  cells : 0 < n → ∃ g, A = some ⟨g, 0, none⟩ ∧ ∀ (i : Nat) s, ns[i]? = some s → w.cell? ⟨g, i, none⟩ = some (.string s)
theorem SRow.below {w w' : World} {A : Option Addr} {n : Nat} {ns : List ByteArray} (h : SRow w A n ns) (hb : Below w.heap.size w w') : SRow w' A n ns := by
  refine ⟨h.len, fun hn => ?_⟩
  obtain ⟨g, rfl, hc⟩ := h.cells hn
  exact ⟨g, rfl, fun i s hs => cell_later hb (hc i s hs)⟩
/-- .. where only a disk has turned -/
theorem SRow.keep {S : Nat → Prop} {w w' : World} {A : Option Addr} {n : Nat} {ns : List ByteArray} (h : SRow w A n ns) (ho : Only S w w') (hS : ∀ b, blk A = some b → ¬ S b) : SRow w' A n ns := by
  refine ⟨h.len, fun hn => ?_⟩
  obtain ⟨g, rfl, hc⟩ := h.cells hn
  exact ⟨g, rfl, fun i s hs => ho.cell (hc i s hs) (hS g rfl)⟩
theorem SRow.at_ {w : World} {A : Option Addr} {n : Nat} {ns : List ByteArray} (h : SRow w A n ns) {i : Nat} (hi : i < n) : ∃ g s, A = some ⟨g, 0, none⟩ ∧ ns[i]? = some s ∧ w.cell? ⟨g, i, none⟩ = some (.string s) := by
  obtain ⟨g, e, hc⟩ := h.cells (by omega)
  have hl : i < ns.length := by rw [h.len]; exact hi
  exact ⟨g, ns[i], e, List.getElem?_eq_getElem hl, hc i _ (List.getElem?_eq_getElem hl)⟩
/-- what Names hands back -/
def Named (w : World) (keys : List ByteArray) (e : Ending) (w' : World) : Prop :=
  ∃ A n c ns, e = .returned (.slice A n c) ∧ SRow w' A n ns ∧ ns.Perm keys ∧ n ≤ c ∧ (∀ b, blk A = some b → w.heap.size ≤ b ∧ b < w'.heap.size) ∧ Below w.heap.size w w'
theorem ba_list (s : ByteArray) : (⟨s.data.toList.toArray⟩ : ByteArray) = s := by cases s; simp
set_option maxHeartbeats 1000000 in
theorem names_any {w : World} {g m cap : Nat} {F : DiskF} (h : DiskS w g m cap F) (hF : F.length ≤ 1000000) :
    Calls Tryz.prog 54 #[.pointer (some ⟨g, 0, none⟩)] w (Named w (AL.keys F)) := by
  obtain ⟨L, hL, hFV⟩ := h.map
  have c1 := h.c1
  have hkeys := hFV.keys
  have hlen : L.length = F.length := hFV.length
  obtain ⟨D, hD, hperm, hsize⟩ := hL.owns (H := Unit) (P := Tryz.prog) Tryz.underlying9 (by unfold maxLen; omega)
  have HD := Lib.hid hD
  have HP := Lib.hid hperm
  have HK := Lib.hid hkeys
  have hmax : Maps.size D ≤ maxLen := by unfold maxLen; omega
  have hbytes : Maps.size D * 16 ≤ 140737488355328 := by omega
  clear h hL hFV hkeys hD hperm
  refine (callsIn_wide (n := 6)).1 ?_
  have hfK : Fence.wide.fn 112 := trivial
  have hfS : Fence.wide.fn 111 := trivial
  refine callsIn_of_wp Tryz.func54 rfl trivial ?_ rfl
  simp only [Tryz.ntmps54, List.size_toArray, List.length_cons, List.length_nil, Nat.reduceAdd, Nat.reduceSub, Array.replicate_succ, Array.replicate_zero, List.push_toArray, List.append_toArray, List.nil_append, List.cons_append]
  gi_wp2_with (first
    | (gi_at_call 112; refine (Tryz.maps_Keys_112 _ _).mono ?_; rintro e w' ⟨rfl, rfl⟩)
    | (gi_at_call 111; refine (Tryz.slices_Sorted_keys_111_112 m L.length D unread w HD.out hmax hbytes).mono ?_; rintro e w' ⟨v, ss, rfl, hS, hrow, hnil, hb⟩))
  go_ret
  have hb' : Below w.heap.size w w' := ((Below.refl _ w).alloc (Nat.le_refl _) _).trans (hb.mono (by simp))
  have hns : ((ss.mergeSort (fun x y => decide (x ≤ y))).map fun l => (⟨l.toArray⟩ : ByteArray)).Perm (AL.keys F) := by
    have h1 : (ss.mergeSort (fun x y => decide (x ≤ y))).Perm (L.map fun p => p.1.data.toList) := ((List.mergeSort_perm ss _).trans hS).trans HP.out
    have h2 := h1.map fun l => (⟨l.toArray⟩ : ByteArray)
    rw [List.map_map] at h2
    have e : L.map ((fun l => (⟨l.toArray⟩ : ByteArray)) ∘ fun p => p.1.data.toList) = AL.keys L := List.map_congr_left (fun p _ => ba_list p.1)
    rw [e, HK.out] at h2
    exact h2
  have hl : (ss.mergeSort (fun x y => decide (x ≤ y))).length = ss.length := List.length_mergeSort ss
  have hex : ∃ A c, v = .slice A ss.length c ∧ ss.length ≤ c := by
    rcases hrow.2 with ⟨hv, h0⟩ | ⟨g, cp, cur, hv, _, _, hle, _⟩
    · exact ⟨none, 0, by rw [hv, h0], by omega⟩
    · exact ⟨_, _, hv, hle⟩
  obtain ⟨A, c, rfl, hc⟩ := hex
  refine ⟨A, ss.length, c, _, rfl, ⟨by rw [List.length_map, hl], fun h0 => ?_⟩, hns, hc, fun b hbk => ?_, hb'⟩
  · obtain ⟨g', cp, hv, _, _⟩ := hrow.form h0
    injection hv with hA _ _
    refine ⟨g', hA, fun i s hs => ?_⟩
    have hi : i < ss.length := by
      have := (List.getElem?_eq_some_iff.1 hs).1
      rw [List.length_map, hl] at this
      exact this
    subst hA
    rw [hrow.cellAt i (by omega), List.getElem?_map]
    rw [List.getElem?_map] at hs
    cases hq : (ss.mergeSort (fun x y => decide (x ≤ y)))[i]? with
    | none => rw [hq] at hs; cases hs
    | some x => rw [hq] at hs; cases hs; rfl
  · have := hrow.lt b (by rw [ownBlock_slice]; exact hbk)
    simp at this
    omega
end Go.Proofs.YtlhaempecidohaaGreatDoor
namespace Go.Proofs.YtlhaempecidohaaGreatDoor
open Go.RowKit
/-- what New hands back -/
def Fresh (w : World) (cap : Nat) (e : Ending) (w' : World) : Prop :=
  ∃ g m, e = .returned (.tuple #[.pointer (some ⟨g, 0, none⟩), .int .i64 0]) ∧ DiskS w' g m cap [] ∧ w.heap.size ≤ g ∧ w.heap.size ≤ m ∧ Below w.heap.size w w'
set_option maxRecDepth 8000 in
set_option maxHeartbeats 400000 in
theorem new_any (cap : Nat) (hc : cap ≤ 4194304) (w : World) : Calls Tryz.prog 17 #[.int .i64 (cap : Int)] w (Fresh w cap) := by
  have hmk : ∀ w, (Instr.makeMap 76 none).run Tryz.prog w = .ok (.map (some w.heap.size)) (w.alloc (.map #[] 0)) := fun w => by kernel_rfl
  have h0 : decide ((cap : Int) < 0) = false := by simp
  have h1 : decide ((4194304 : Int) < (cap : Int)) = false := by simp; omega
  go_enter Tryz.func17, Tryz.ntmps17
  go_wp2
  go_ret2
  obtain ⟨w1, hw1⟩ : ∃ w1, w1 = w.alloc (.map #[] 0) := ⟨_, rfl⟩
  have hb1 : Below w.heap.size w w1 := by rw [hw1]; exact (Below.refl _ _).alloc (Nat.le_refl _) _
  have hs1 : w1.heap.size = w.heap.size + 1 := by rw [hw1]; simp
  have hm1 : MapS w1 w.heap.size [] := by rw [hw1]; exact MapS.made w
  rw [← hw1, ← hs1]
  have hb2 : Below w1.heap.size w1 (w1.alloc (.cells #[.int .i64 (cap : Int), .map (some w.heap.size), .int .i64 (-1), .bool false] 78)) := (Below.refl _ _).alloc (Nat.le_refl _) _
  exact ⟨w1.heap.size, w.heap.size, rfl, ⟨heap_alloc_new w1 _, ⟨[], hm1.below hb2, trivial⟩, Nat.zero_le _, hc⟩, by omega, Nat.le_refl _, hb1.trans (hb2.mono (by omega))⟩
end Go.Proofs.YtlhaempecidohaaGreatDoor
