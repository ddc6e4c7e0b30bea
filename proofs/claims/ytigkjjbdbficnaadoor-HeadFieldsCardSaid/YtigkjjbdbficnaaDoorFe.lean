/-
  Package head: Field, Fields; what a program that does nothing answers wrongly.
-/
import Derived.Test.YtigkjjbdbficnaaDoorFl
import Derived.Test.YtigkjjbdbficnaaDoorRow
namespace Go.Proofs.YtigkjjbdbficnaaDoor
open Go.RowKit

/-- The value of the first field of a name. -/
def pick (fs : List F) (nm : ByteArray) : U × Bool := match fs.find? fun f => alikeB (st f.1) nm with
  | some f => (f.2, true)
  | none => ([], false)
theorem pick_here {fs : List F} {nm : ByteArray} {i : Nat} {f : F} (h : ∀ g ∈ fs.take i, alikeB (st g.1) nm = false) (hf : fs[i]? = some f) (ha : alikeB (st f.1) nm = true) : pick fs nm = (f.2, true) := by
  unfold pick
  have : fs.find? (fun f => alikeB (st f.1) nm) = some f := by
    rw [List.find?_eq_some_iff_append]
    refine ⟨ha, fs.take i, fs.drop (i + 1), ?_, fun g hg => by rw [h g hg]; rfl⟩
    have hi := (List.getElem?_eq_some_iff.1 hf).1
    rw [show f :: fs.drop (i + 1) = fs.drop i from by
      rw [List.drop_eq_getElem_cons hi]
      congr 1
      exact (List.getElem?_eq_some_iff.1 hf).2.symm, List.take_append_drop]
  rw [this]
theorem pick_none {fs : List F} {nm : ByteArray} (h : ∀ g ∈ fs, alikeB (st g.1) nm = false) : pick fs nm = ([], false) := by
  unfold pick
  have : fs.find? (fun f => alikeB (st f.1) nm) = none := by
    rw [List.find?_eq_none]
    intro g hg
    rw [h g hg]
    decide
  rw [this]
theorem take_snoc_mem {α : Type} {P : α → Prop} {l : List α} {i : Nat} {x : α} (h : ∀ g ∈ l.take i, P g) (hx : l[i]? = some x) (hp : P x) : ∀ g ∈ l.take (i + 1), P g := by
  intro g hg
  rw [List.take_add_one, hx] at hg
  rcases List.mem_append.1 hg with hg | hg
  · exact h g hg
  · rw [show g = x from by simpa using hg]; exact hp

attribute [local irreducible] Calls in
set_option maxRecDepth 8000 in
set_option maxHeartbeats 1000000 in
theorem field_any (A : Option Addr) (n c : Nat) (u : U) (nm : ByteArray) (w : World) (h : RB w A n (nu u)) (hc : n ≤ c) (hn' : n ≤ 10000) (hnm : nm.size ≤ 100000) :
    Calls Tryd.prog 10 #[.slice A n c, .string nm] w fun e w' => e = .returned (.tuple #[.string (st (pick (heads u) nm).1), .bool (pick (heads u) nm).2]) ∧ Below w.heap.size w w' := by
  have hl : u.length = n := by have := h.1; rw [nu_length] at this; exact this
  have HF := Lib.hid (fields_any A n c u w h hc hn')
  have hbd := heads_bd u
  obtain ⟨fs, hfs⟩ : ∃ fs, fs = heads u := ⟨_, rfl⟩
  rw [hl, ← hfs] at hbd
  have HBD := Lib.hid hbd
  have HH := Lib.hid hfs
  rw [← hfs]
  obtain ⟨pk, hpk⟩ : ∃ pk, pk = pick fs nm := ⟨_, rfl⟩
  rw [← hpk]
  have HPK := Lib.hid hpk
  clear hbd hfs h hl hpk
  go_enter Tryd.func10, Tryd.ntmps10
  go_wp2_with fail
  refine HF.out.mono ?_
  rintro e w1 ⟨L, k, cL, rfl, hf1, hB1⟩
  rw [← HH.out] at hf1
  have HF1 := Lib.hid hf1
  have HKL := Lib.hid hf1.1
  have HB1 := Lib.hid hB1
  have hwq := hB1.size
  have hk1 : k ≤ 10000 := by rw [← HKL.out]; exact Nat.le_trans HBD.out.1 hn'
  clear hf1 hB1
  go_wp2_with fail
  go_loopw [11] (fun v wr => ∃ i : Nat, v = .int .i64 (i : Int) ∧ i ≤ k ∧ (∀ g ∈ fs.take i, alikeB (st g.1) nm = false) ∧ Below w1.heap.size w1 wr) (fun v _ => k - (intOf v).toNat)
  case atStart => exact ⟨0, rfl, Nat.zero_le _, by simp, Below.refl _ _⟩
  case round =>
    obtain ⟨i, rfl, hik, hno, hB⟩ := hrel
    have HNO := Lib.hid hno
    have HB := Lib.hid hB
    have hwqi := hB.size
    clear hno hB
    by_cases hlt : i < k
    · obtain ⟨f, hf⟩ : ∃ f, fs[i]? = some f := ⟨_, List.getElem?_eq_getElem (by rw [HKL.out]; exact hlt)⟩
      have hfb := HBD.out.2 f (List.mem_of_getElem? hf)
      have hfsr := HF1.out.below HB.out
      obtain ⟨g, rfl, hg1, hg2⟩ := hfsr.some_ (by omega)
      obtain ⟨hc1, hc2, -⟩ := hfsr.at_ hf
      have HFI := Lib.hid hf
      have hL1 := fun W => lower_any (st f.1) W (by rw [st_size]; omega)
      have hL2 := fun W => lower_any nm W (by omega)
      have heq := lowS_eq (st f.1) nm
      clear hf hfsr
      generalize lowS (st f.1) = X1 at *
      generalize lowS nm = X2 at *
      obtain ⟨S1, hS1⟩ : ∃ s, s = st f.1 := ⟨_, rfl⟩
      obtain ⟨S2, hS2⟩ : ∃ s, s = st f.2 := ⟨_, rfl⟩
      rw [← hS1] at hc1 hL1 heq
      rw [← hS2] at hc2
      have HS1 := Lib.hid hS1
      have HS2 := Lib.hid hS2
      clear hS1 hS2
      have hB2 : Below wr.heap.size wr (wr.alloc (.cells #[.string S1, .string S2] 43)) := (Below.refl _ _).alloc (Nat.le_refl _) _
      have hv2 : (wr.alloc (.cells #[.string S1, .string S2] 43)).cell? ⟨wr.heap.size, 1, none⟩ = some (.string S2) := by rw [cell_of_row _ _ 1 _ 43 (0, 0) (heap_alloc_new wr _)]; rfl
      have HB2 := Lib.hid (HB.out.trans (hB2.mono hwqi))
      have HV2 := Lib.hid hv2
      have hwq2 := HB2.out.size
      clear hB2 hv2
      cases hal : alikeB S1 nm
      · rw [hal] at heq
        have HAL := Lib.hid hal
        clear hal
        go_wp2_with fail
        refine (hL1 _).mono ?_
        rintro e w3 ⟨rfl, hB3⟩
        have HB3 := Lib.hid (HB2.out.trans (hB3.mono hwq2))
        have hwq3 := HB3.out.size
        clear hB3
        go_wp2_with fail
        refine (hL2 _).mono ?_
        rintro e w4 ⟨rfl, hB4⟩
        have HB4 := Lib.hid (HB3.out.trans (hB4.mono hwq3))
        clear hB4
        go_wp2_with fail
        go_roundw
        case rel => exact ⟨i + 1, by go_num, hlt, take_snoc_mem (P := fun g : F => alikeB (st g.1) nm = false) HNO.out HFI.out (by rw [← HS1.out]; exact HAL.out), HB4.out⟩
        case measure => simp [intOf]; omega
      · rw [hal] at heq
        have HAL := Lib.hid hal
        clear hal
        go_wp2_with fail
        refine (hL1 _).mono ?_
        rintro e w3 ⟨rfl, hB3⟩
        have HB3 := Lib.hid (HB2.out.trans (hB3.mono hwq2))
        have hwq3 := HB3.out.size
        have HV3 := Lib.hid (cell_later hB3 HV2.out)
        clear hB3
        go_wp2_with fail
        refine (hL2 _).mono ?_
        rintro e w4 ⟨rfl, hB4⟩
        have HB4 := Lib.hid (HB3.out.trans (hB4.mono hwq3))
        have hv4 := cell_later hB4 HV3.out
        clear hB4
        go_wp2_with fail
        go_ret2
        have hpk := pick_here HNO.out HFI.out (by rw [← HS1.out]; exact HAL.out)
        exact ⟨by rw [HPK.out, hpk, ← HS2.out]; rfl, HB1.out.trans (HB4.out.mono hwq)⟩
    · obtain rfl : i = k := by omega
      have hno := HNO.out
      rw [List.take_of_length_le (by rw [HKL.out]; exact Nat.le_refl _)] at hno
      have hpk := Lib.hid (pick_none hno)
      clear hno
      go_wp2
      go_ret2
      exact ⟨by rw [HPK.out, hpk.out]; rfl, HB1.out.trans (HB.out.mono hwq)⟩

def names (fs : List F) : List ByteArray := fs.map fun f => st f.1
attribute [local irreducible] Calls in
set_option maxRecDepth 8000 in
set_option maxHeartbeats 1000000 in
theorem names_any (A : Option Addr) (n c : Nat) (u : U) (w : World) (h : RB w A n (nu u)) (hc : n ≤ c) (hn' : n ≤ 10000) :
    Calls Tryd.prog 8 #[.slice A n c] w fun e w' => ∃ A' k c', e = .returned (.slice A' k c') ∧ OwnS w' w.heap.size A' k c' (names (heads u)) ∧ Below w.heap.size w w' := by
  have hl : u.length = n := by have := h.1; rw [nu_length] at this; exact this
  have HF := Lib.hid (fields_any A n c u w h hc hn')
  have hbd := heads_bd u
  obtain ⟨fs, hfs⟩ : ∃ fs, fs = heads u := ⟨_, rfl⟩
  rw [hl, ← hfs] at hbd
  have HBD := Lib.hid hbd
  have HH := Lib.hid hfs
  rw [← hfs]
  clear hbd hfs h hl
  go_enter Tryd.func8, Tryd.ntmps8
  go_wp2_with fail
  refine HF.out.mono ?_
  rintro e w1 ⟨L, k, cL, rfl, hf1, hB1⟩
  rw [← HH.out] at hf1
  have HF1 := Lib.hid hf1
  have HKL := Lib.hid hf1.1
  have HB1 := Lib.hid hB1
  have hwq := hB1.size
  have hk1 : k ≤ 10000 := by rw [← HKL.out]; exact Nat.le_trans HBD.out.1 hn'
  clear hf1 hB1
  go_wp2_with fail
  go_loopw [3, 9] (fun v3 v wr => ∃ (i : Nat) (A' : Option Addr) (c' : Nat), v3 = .slice A' i c' ∧ v = .int .i64 (i : Int) ∧ i ≤ k ∧ OwnS wr w1.heap.size A' i c' (names (fs.take i)) ∧ Below w1.heap.size w1 wr) (fun _ v _ => k - (intOf v).toNat)
  case atStart => exact ⟨0, none, 0, rfl, rfl, Nat.zero_le _, OwnS.nil _ _, Below.refl _ _⟩
  case round =>
    obtain ⟨i, A', c', rfl, rfl, hik, hown, hB⟩ := hrel
    have HO := Lib.hid hown
    have HB := Lib.hid hB
    have hwqi := hB.size
    clear hown hB
    by_cases hlt : i < k
    · obtain ⟨f, hf⟩ : ∃ f, fs[i]? = some f := ⟨_, List.getElem?_eq_getElem (by rw [HKL.out]; exact hlt)⟩
      have hfsr := HF1.out.below HB.out
      obtain ⟨g, rfl, hg1, hg2⟩ := hfsr.some_ (by omega)
      obtain ⟨hc1, hc2, -⟩ := hfsr.at_ hf
      have HS := Lib.hid (show names (fs.take i) ++ [st f.1] = names (fs.take (i + 1)) by rw [List.take_add_one, hf]; simp [names])
      clear hf hfsr
      obtain ⟨S1, hS1⟩ : ∃ s, s = st f.1 := ⟨_, rfl⟩
      obtain ⟨S2, hS2⟩ : ∃ s, s = st f.2 := ⟨_, rfl⟩
      rw [← hS1] at hc1 HS
      rw [← hS2] at hc2
      clear hS1 hS2
      have hB2 : Below wr.heap.size wr ((wr.alloc (.cells #[.string S1, .string S2] 43)).alloc (.cells #[.string S1] 9)) := ((Below.refl _ _).alloc (Nat.le_refl _) _).alloc (by simp) _
      have hown2 := HO.out.below hB2
      have hr2 : RS ((wr.alloc (.cells #[.string S1, .string S2] 43)).alloc (.cells #[.string S1] 9)) (some ⟨wr.heap.size + 1, 0, none⟩) 1 [S1] := by
        have := RS.new (wr.alloc (.cells #[.string S1, .string S2] 43)) #[.string S1] 9 (0, 0) [S1] rfl
        simpa using this
      have HB2 := Lib.hid (HB.out.trans (hB2.mono hwqi))
      have hwq2 := HB2.out.size
      clear hB2
      go_wp2_with (at_builtin; refine wpList_append_s rfl (.tmp 13) (.tmp 16) rfl rfl rfl hown2 hr2 (by omega) (by omega) hwq2 ?_; intro A3 c3 w3 hown3 ho3 _)
      have HO3 := Lib.hid hown3
      have HB3 := Lib.hid (HB2.out.trans (ho3.below hwq2 (fun i hi e => by have := (hown2.lt i e).1; omega)))
      clear hown2 hr2 hown3 ho3
      go_roundw
      case rel => exact ⟨i + 1, A3, c3, rfl, by go_num, hlt, by rw [← HS.out]; exact HO3.out, HB3.out⟩
      case measure => simp [intOf]; omega
    · obtain rfl : i = k := by omega
      have hown := HO.out
      rw [List.take_of_length_le (by rw [HKL.out]; exact Nat.le_refl _)] at hown
      go_wp2
      go_ret
      exact ⟨A', i, c', rfl, ⟨hown.1, hown.2.1, by rcases hown.2.2 with hn | ⟨g, cap, cur, hv, hb', r⟩; exact .inl hn; exact .inr ⟨g, cap, cur, hv, Nat.le_trans hwq hb', r⟩⟩, HB1.out.trans (HB.out.mono hwq)⟩
end Go.Proofs.YtigkjjbdbficnaaDoor
