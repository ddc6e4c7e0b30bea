/-
  Package disk: what a disk is in memory; gone, there, whole, Lost, burns, right.
-/
import Derived.Test.YtlhaempecidohaaGreatDoorJah
import Derived.Test.YtlhaempecidohaaGreatDoorJad
import Derived.Test.YtlhaempecidohaaGreatDoorJae
set_option linter.unusedSimpArgs false
set_option linter.unusedVariables false
namespace Go.Proofs.YtlhaempecidohaaGreatDoor
open Go.RowKit
/-- a file's value -/
def FileV (w : World) (v : Value) (f : FileS) : Prop := ∃ A n c, v = .agg #[.slice A n c, .int .i64 (f.safe : Int), .bool f.ever] ∧ RB w A n f.b ∧ n ≤ c
def FilesV (w : World) : AL Value → DiskF → Prop := All2 fun p q => p.1 = q.1 ∧ FileV w p.2 q.2
theorem FileV.keep {S : Nat → Prop} {w w' : World} {v : Value} {f : FileS} (h : FileV w v f) (ho : Only S w w') (hs : ∀ b, S b → NoB w b) : FileV w' v f := by
  obtain ⟨A, n, c, h1, h2, h3⟩ := h
  exact ⟨A, n, c, h1, h2.keep ho hs, h3⟩
theorem FilesV.keep {S : Nat → Prop} {w w' : World} {L : AL Value} {F : DiskF} (h : FilesV w L F) (ho : Only S w w') (hs : ∀ b, S b → NoB w b) : FilesV w' L F :=
  All2.mono (fun _ _ h => ⟨h.1, h.2.keep ho hs⟩) h
theorem FilesV.keys {w : World} : ∀ {L : AL Value} {F : DiskF}, FilesV w L F → AL.keys L = AL.keys F
  | [], [], _ => rfl
  | p :: L, q :: F, h => by
    have := FilesV.keys (L := L) (F := F) h.2
    simp only [AL.keys, List.map_cons] at this ⊢
    rw [h.1.1, this]
  | [], _ :: _, h => h.elim
  | _ :: _, [], h => h.elim
theorem FilesV.get {w : World} {n : ByteArray} : ∀ {L : AL Value} {F : DiskF}, FilesV w L F → (AL.get F n = none → AL.get L n = none) ∧ ∀ f, AL.get F n = some f → ∃ v, AL.get L n = some v ∧ FileV w v f
  | [], [], _ => ⟨fun _ => rfl, fun f h => by cases h⟩
  | p :: L, q :: F, h => by
    obtain ⟨h1, h2⟩ := FilesV.get (n := n) (L := L) (F := F) h.2
    rw [AL.get_cons, AL.get_cons, h.1.1]
    by_cases e : q.1 = n
    · simp only [e, if_true]
      refine ⟨(fun h => by cases h), fun f hf => ?_⟩
      cases hf
      exact ⟨p.2, rfl, h.1.2⟩
    · simp only [e, if_false]
      exact ⟨h1, h2⟩
  | [], _ :: _, h => h.elim
  | _ :: _, [], h => h.elim
theorem FilesV.put {w : World} {n : ByteArray} {v : Value} {f : FileS} (hv : FileV w v f) : ∀ {L : AL Value} {F : DiskF}, FilesV w L F → FilesV w (AL.put L n v) (AL.put F n f)
  | [], [], _ => ⟨⟨rfl, hv⟩, trivial⟩
  | p :: L, q :: F, h => by
    unfold AL.put
    rw [h.1.1]
    split
    · exact ⟨⟨rfl, hv⟩, h.2⟩
    · exact ⟨h.1, FilesV.put hv h.2⟩
  | [], _ :: _, h => h.elim
  | _ :: _, [], h => h.elim
theorem FilesV.del {w : World} {n : ByteArray} : ∀ {L : AL Value} {F : DiskF}, FilesV w L F → FilesV w (AL.del L n) (AL.del F n)
  | [], [], _ => trivial
  | p :: L, q :: F, h => by
    unfold AL.del
    rw [h.1.1]
    split
    · exact h.2
    · exact ⟨h.1, FilesV.del h.2⟩
  | [], _ :: _, h => h.elim
  | _ :: _, [], h => h.elim
/-- Block g is a disk of so many bytes, its files in the map at block m: F. -/
structure DiskS (w : World) (g m cap : Nat) (F : DiskF) : Prop where
  cells : w.heap[g]? = some (.cells #[.int .i64 (cap : Int), .map (some m), .int .i64 (-1), .bool false] 78 (0, 0))
  map : ∃ L, MapS w m L ∧ FilesV w L F
  fits : F.total ≤ cap
  most : cap ≤ 4194304
/-- the blocks of a disk -/
def DB (g m : Nat) (b : Nat) : Prop := b = g ∨ b = m
section
variable {w w' : World} {g m cap : Nat} {F : DiskF}
theorem DiskS.noB (h : DiskS w g m cap F) : ∀ b, DB g m b → NoB w b := by
  intro b hb
  rcases hb with rfl | rfl
  · exact NoB.cells h.cells (by intro j x; rcases j with _ | _ | _ | _ | j <;> simp)
  · obtain ⟨L, ⟨es, cl, hm, _⟩, _⟩ := h.map
    exact NoB.map hm
theorem DiskS.ne (h : DiskS w g m cap F) : g ≠ m := by
  rintro rfl
  obtain ⟨L, ⟨es, cl, hm, _⟩, _⟩ := h.map
  rw [h.cells] at hm
  cases hm
theorem DiskS.lt (h : DiskS w g m cap F) : g < w.heap.size ∧ m < w.heap.size := by
  obtain ⟨L, hm, _⟩ := h.map
  exact ⟨(Array.getElem?_eq_some_iff.1 h.cells).1, hm.lt⟩
theorem DiskS.only {S : Nat → Prop} (h : DiskS w g m cap F) (ho : Only S w w') (hS : ∀ b, S b → NoB w b) (hg : ¬ S g) (hm : ¬ S m) : DiskS w' g m cap F := by
  obtain ⟨L, h1, h2⟩ := h.map
  exact ⟨ho.heap h.cells hg, ⟨L, h1.only ho hm, h2.keep ho hS⟩, h.fits, h.most⟩
theorem DiskS.below (h : DiskS w g m cap F) (hb : Below w.heap.size w w') : DiskS w' g m cap F :=
  h.only (Only.of_below hb (fun _ => False)) (fun _ h => h.elim) (fun h => h) (fun h => h)
theorem DiskS.nodup (h : DiskS w g m cap F) : (AL.keys F).Nodup := by
  obtain ⟨L, h1, h2⟩ := h.map
  rw [← h2.keys]; exact h1.nodup
theorem DiskS.c0 (h : DiskS w g m cap F) : w.cell? ⟨g, 0, none⟩ = some (.int .i64 (cap : Int)) := cell_of_row w g 0 _ _ _ h.cells
theorem DiskS.c1 (h : DiskS w g m cap F) : w.cell? ⟨g, 1, none⟩ = some (.map (some m)) := cell_of_row w g 1 _ _ _ h.cells
theorem DiskS.c2 (h : DiskS w g m cap F) : w.cell? ⟨g, 2, none⟩ = some (.int .i64 (-1)) := cell_of_row w g 2 _ _ _ h.cells
theorem DiskS.c3 (h : DiskS w g m cap F) : w.cell? ⟨g, 3, none⟩ = some (.bool false) := cell_of_row w g 3 _ _ _ h.cells
theorem DiskS.froz (h : DiskS w g m cap F) (i : Nat) : w.frozen? ⟨g, i, none⟩ = false := by simp [World.frozen?, h.cells]
end
theorem total_get {F : DiskF} {n : ByteArray} {f : FileS} (h : AL.get F n = some f) : f.b.length ≤ F.total := by
  have := AL.total_del F n
  unfold AL.lenAt at this
  rw [h] at this
  simp at this
  omega
theorem zero75 (w : World) : (zeroValue 75).run Tryz.prog w = .ok (.agg #[.slice none 0 0, .int .i64 0, .bool false]) w := by kernel_rfl
theorem Tryz.underlying76 : Tryz.prog.underlying 76 = some (.map 9 75) := by kernel_rfl
/-! ### The small ones -/
section
variable {w : World} {g m cap : Nat} {F : DiskF}
set_option maxHeartbeats 400000 in
theorem gone_ok (h : DiskS w g m cap F) : Calls Tryz.prog 27 #[.pointer (some ⟨g, 0, none⟩)] w fun e w' => e = .returned (.int .i64 0) ∧ w = w' := by
  have c3 := h.c3
  clear h
  go_enter Tryz.func27, Tryz.ntmps27
  go_wp2
  go_ret
  exact ⟨rfl, rfl⟩
set_option maxHeartbeats 400000 in
theorem lost_no (h : DiskS w g m cap F) : Calls Tryz.prog 29 #[.pointer (some ⟨g, 0, none⟩)] w fun e w' => e = .returned (.bool false) ∧ w = w' := by
  have c3 := h.c3
  clear h
  go_enter Tryz.func29, Tryz.ntmps29
  go_wp2
  go_ret
  exact ⟨rfl, rfl⟩
set_option maxHeartbeats 400000 in
theorem burns_no (h : DiskS w g m cap F) : Calls Tryz.prog 74 #[.pointer (some ⟨g, 0, none⟩)] w fun e w' => e = .returned (.bool false) ∧ DiskS w' g m cap F ∧ Only (DB g m) w w' := by
  have c2 := h.c2
  have c3 := h.c3
  have f3 := h.froz 3
  have H := Lib.hid h
  clear h
  go_enter Tryz.func74, Tryz.ntmps74
  go_wp2
  go_ret
  have ho : Only (DB g m) w (w.setCell ⟨g, 3, none⟩ (.bool false)) := (Only.refl (DB g m) w).setCell (p := ⟨g, 3, none⟩) (.inl (.inl rfl)) _
  refine ⟨rfl, ?_, ho⟩
  have hL := H.out.map
  obtain ⟨L, h1, h2⟩ := hL
  exact ⟨blk_set H.out.cells 3 _, ⟨L, h1.only (only_set w g 3 _) (fun e => H.out.ne e.symm), h2.keep ho H.out.noB⟩, H.out.fits, H.out.most⟩
end
end Go.Proofs.YtlhaempecidohaaGreatDoor
