/-
  Package store: what a store is in memory; Number.
-/
import Derived.Test.YtlhaempecidohaaGreatDoorJao
import Derived.Test.YtlhaempecidohaaGreatDoorJak
import Derived.Test.YtlhaempecidohaaGreatDoorJax
set_option linter.unusedSimpArgs false
set_option linter.unusedVariables false
namespace Go.Proofs.YtlhaempecidohaaGreatDoor
open Go.RowKit
/-- a mailbox's number -/
def numOf (bs : Boxes) (s : ByteArray) : Option Nat := (bs.find? fun p => decide (p.2.l.name = s)).map (·.1)
theorem numOf_some {bs : Boxes} {s : ByteArray} {n : Nat} (h : numOf bs s = some n) : ∃ b, (n, b) ∈ bs ∧ b.l.name = s := by
  unfold numOf at h
  cases hf : bs.find? fun p => decide (p.2.l.name = s) with
  | none => rw [hf] at h; cases h
  | some p =>
    rw [hf] at h
    injection h with h
    obtain ⟨k, b⟩ := p
    subst h
    exact ⟨b, List.mem_of_find?_eq_some hf, by simpa using List.find?_some hf⟩
theorem numOf_none {bs : Boxes} {s : ByteArray} (h : numOf bs s = none) : s ∉ bs.map fun p => p.2.l.name := by
  unfold numOf at h
  rw [Option.map_eq_none_iff] at h
  intro hm
  obtain ⟨p, hp, rfl⟩ := List.mem_map.1 hm
  have := List.find?_eq_none.1 h p hp
  simp at this
/-- the store's map of names -/
def NamesM (L : AL Value) (bs : Boxes) : Prop := ∀ s, AL.get L s = (numOf bs s).map fun n => Value.int .i64 (n : Int)
/-- Block gs is a store of the disk at g; its map of names lies at mm. -/
structure StoreS (w : World) (gs g m mm cap : Nat) (F : DiskF) (bs : Boxes) : Prop where
  cells : w.heap[gs]? = some (.cells #[.pointer (some ⟨g, 0, none⟩), .map (some mm)] 117 (0, 0))
  names : ∃ L, MapS w mm L ∧ NamesM L bs
  disk : DiskS w g m cap F
  rest : Rest F bs
  old : 9 ≤ g ∧ 9 ≤ m ∧ 9 ≤ mm
  apart : gs ≠ g ∧ gs ≠ m ∧ mm ≠ g ∧ mm ≠ m ∧ gs ≠ mm
section
variable {w w' : World} {gs g m mm cap : Nat} {F F' : DiskF} {bs bs' : Boxes}
theorem StoreS.below (h : StoreS w gs g m mm cap F bs) (hb : Below w.heap.size w w') : StoreS w' gs g m mm cap F bs := by
  obtain ⟨L, h1, h2⟩ := h.names
  exact ⟨(hb.block gs (Array.getElem?_eq_some_iff.1 h.cells).1).trans h.cells, ⟨L, h1.below hb, h2⟩, h.disk.below hb, h.rest, h.old, h.apart⟩
theorem StoreS.c0 (h : StoreS w gs g m mm cap F bs) : w.cell? ⟨gs, 0, none⟩ = some (.pointer (some ⟨g, 0, none⟩)) := cell_of_row w gs 0 _ _ _ h.cells
theorem StoreS.c1 (h : StoreS w gs g m mm cap F bs) : w.cell? ⟨gs, 1, none⟩ = some (.map (some mm)) := cell_of_row w gs 1 _ _ _ h.cells
/-- where only the disk has turned -/
theorem StoreS.turn (h : StoreS w gs g m mm cap F bs) (hd : DiskS w' g m cap F') (ho : Only (DB g m) w w') (hr : Rest F' bs') (hn : ∀ s, numOf bs' s = numOf bs s) : StoreS w' gs g m mm cap F' bs' := by
  obtain ⟨L, h1, h2⟩ := h.names
  obtain ⟨a1, a2, a3, a4, a5⟩ := h.apart
  exact ⟨ho.heap h.cells (fun e => by rcases e with e | e <;> omega), ⟨L, h1.only ho (fun e => by rcases e with e | e <;> omega), fun s => by rw [h2 s, hn s]⟩, hd, hr, h.old, h.apart⟩
end
theorem zero3 (w : World) : (zeroValue 3).run Tryz.prog w = .ok (.int .i64 0) w := by kernel_rfl
theorem Tryz.underlying115 : Tryz.prog.underlying 115 = some (.map 9 3) := by kernel_rfl
def numI (o : Option Nat) : Int := match o with | some n => (n : Int) | none => -1
set_option maxHeartbeats 1000000 in
theorem number_at {w : World} {gs mm : Nat} {bs : Boxes} {L : AL Value} (c1 : w.cell? ⟨gs, 1, none⟩ = some (.map (some mm))) (hL : MapS w mm L) (hN : NamesM L bs) (s : ByteArray) (hs : s.size ≤ 1000000) :
    Calls Tryz.prog 61 #[.pointer (some ⟨gs, 0, none⟩), .string s] w fun e w' => e = .returned (.int .i64 (numI (numOf bs s))) ∧ w' = w := by
  have hv := hN s
  have HL := Lib.hid hL
  have HS : Hid (s.size ≤ maxLen) := by show s.size ≤ maxLen; unfold maxLen; omega
  clear hL hN
  cases hn : numOf bs s with
  | none =>
    rw [hn] at hv
    have HV : Hid (AL.get L s = none) := hv
    clear hv hn
    go_enter Tryz.func61, Tryz.ntmps61
    go_wp2_with (at_lookup; refine wpList_lkno _ rfl (.tmp 13) (.tmp 14) 115 true rfl 9 3 Tryz.underlying115 Tryz.underlying9 _ (zero3 _) mm _ rfl HL.out s rfl HS.out HV.out ?_; simp only [if_true])
    go_ret
    exact ⟨rfl, rfl⟩
  | some n =>
    rw [hn] at hv
    have HV : Hid (AL.get L s = some (.int .i64 (n : Int))) := hv
    clear hv hn
    go_enter Tryz.func61, Tryz.ntmps61
    go_wp2_with (at_lookup; refine wpList_lk _ rfl (.tmp 13) (.tmp 14) 115 true rfl 9 3 Tryz.underlying115 Tryz.underlying9 _ (zero3 _) mm _ rfl HL.out s rfl HS.out _ HV.out ?_; simp only [if_true])
    go_ret
    exact ⟨rfl, rfl⟩
theorem number_any {w : World} {gs g m mm cap : Nat} {F : DiskF} {bs : Boxes} (h : StoreS w gs g m mm cap F bs) (s : ByteArray) (hs : s.size ≤ 1000000) :
    Calls Tryz.prog 61 #[.pointer (some ⟨gs, 0, none⟩), .string s] w fun e w' => e = .returned (.int .i64 (numI (numOf bs s))) ∧ w' = w := by
  obtain ⟨L, hL, hN⟩ := h.names
  exact number_at h.c1 hL hN s hs
end Go.Proofs.YtlhaempecidohaaGreatDoor
