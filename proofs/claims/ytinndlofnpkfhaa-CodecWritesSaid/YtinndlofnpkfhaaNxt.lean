/-
  Package frame: next.
-/
import Derived.Test.YtinndlofnpkfhaaHd
import Derived.Test.YtinndlofnpkfhaaShelf
import Derived.Lib.IndexMore
import Derived.Lib.SmallJoins
namespace Go.Proofs.Ytinndlofnpkfhaa
open Go.RowKit

theorem map_of_inj {t u : List Nat} (ht : ∀ x ∈ t, x < 256) (hu : ∀ x ∈ u, x < 256) (h : t.map UInt8.ofNat = u.map UInt8.ofNat) : t = u := by
  have e : ∀ l : List Nat, (∀ x ∈ l, x < 256) → (l.map UInt8.ofNat).map UInt8.toNat = l := by
    intro l hl
    rw [List.map_map]
    conv => rhs; rw [← List.map_id l]
    exact List.map_congr_left (fun x hx => by have := hl x hx; simp; omega)
  have := congrArg (List.map UInt8.toNat) h
  rwa [e t ht, e u hu] at this
theorem occ_cub {l : List Nat} (h : ∀ x ∈ l, x < 256) (j : Nat) : Lib.occAt (l.map UInt8.ofNat) ([99, 117, 98].map UInt8.ofNat) j = true ↔ (l.drop j).take 3 = [99, 117, 98] := by
  unfold Lib.occAt
  rw [List.isPrefixOf_iff_prefix, List.prefix_iff_eq_take, List.length_map, ← List.map_drop, ← List.map_take]
  constructor
  · intro e
    exact (map_of_inj (by decide) (fun x hx => h x (List.mem_of_mem_drop (List.mem_of_mem_take hx))) e).symm
  · intro e
    rw [show [99, 117, 98].length = 3 from rfl, e]

/-- what bytes.Index of a text and of cub hands back -/
def Idx (l : List Nat) (r : Int) : Prop := (r = -1 ∧ ∀ j, (l.drop j).take 3 ≠ [99, 117, 98]) ∨ ∃ i : Nat, r = i ∧ i + 3 ≤ l.length ∧ ∀ j, j < i → (l.drop j).take 3 ≠ [99, 117, 98]

theorem index_idx {l : List Nat} (h : ∀ x ∈ l, x < 256) : Idx l (Lib.index (l.map UInt8.ofNat) ([99, 117, 98].map UInt8.ofNat)) := by
  have no : ∀ j, Lib.occAt (l.map UInt8.ofNat) ([99, 117, 98].map UInt8.ofNat) j = false → (l.drop j).take 3 ≠ [99, 117, 98] := fun j hj e => by
    rw [(occ_cub h j).2 e] at hj; cases hj
  rcases Lib.index_spec (l.map UInt8.ofNat) ([99, 117, 98].map UInt8.ofNat) with ⟨h1, h2⟩ | ⟨i, h1, h2, h3, h4⟩
  · refine .inl ⟨h1, fun j => ?_⟩
    by_cases hj : j ≤ l.length
    · exact no j (h2 j (by rw [List.length_map]; exact hj))
    · rw [List.drop_eq_nil_of_le (by omega)]; simp
  · refine .inr ⟨i, h1, ?_, fun j hj => no j (h4 j hj)⟩
    have := congrArg List.length ((occ_cub h i).1 h3)
    rw [List.length_take, List.length_drop] at this
    simp at this
    omega

theorem index_any (A : Option Addr) (n c : Nat) (l : List Nat) (g d : Nat) (m : Int) (w : World) (h : RB w A n l) (h0 : 0 < n) (hc : n ≤ c) (hn : n ≤ 500000) (hs : RB w (some ⟨g, 0, none⟩) 3 [99, 117, 98])
    (hm : w.cell? ⟨0, 0, none⟩ = some (.int .i64 m)) :
    Calls Try.prog 62 #[.slice A n c, .slice (some ⟨g, 0, none⟩) 3 d] w fun e w' => ∃ r : Int, e = .returned (.int .i64 r) ∧ Idx l r ∧ ∃ q, w' = w.drewN q := by
  obtain ⟨h1, h2, h3⟩ := h
  obtain ⟨ad, rfl, hcell⟩ := h3 h0
  obtain ⟨s1, s2, s3⟩ := hs
  obtain ⟨ad2, e2, hc2⟩ := s3 (by decide)
  cases e2
  have b1 : Lib.bytesOf (l.map Int.ofNat) = l.map UInt8.ofNat := by unfold Lib.bytesOf; rw [List.map_map]; rfl
  refine (Try.bytes_Index_at ad ⟨g, 0, none⟩ n c 3 d (l.map Int.ofNat) [99, 117, 98] m w (by rw [List.length_map]; exact h1) rfl (fun x hx => ?_) (by decide) (fun i hi => ?_) (fun i hi => ?_) hc (by omega) (by decide) hm).mono ?_
  · obtain ⟨y, hy, rfl⟩ := List.mem_map.1 hx
    have := h2 y hy
    exact ⟨Int.natCast_nonneg _, by show (y : Int) < 256; omega⟩
  · have hil : i < l.length := by omega
    rw [hcell i l[i] (List.getElem?_eq_getElem hil), List.getD_eq_getElem?_getD, List.getElem?_map, List.getElem?_eq_getElem hil]; rfl
  · rcases (by omega : i = 0 ∨ i = 1 ∨ i = 2) with rfl | rfl | rfl
    · exact hc2 0 99 rfl
    · exact hc2 1 117 rfl
    · exact hc2 2 98 rfl
  · rintro e w' ⟨he, hq⟩
    refine ⟨_, he, ?_, hq⟩
    rw [b1]
    exact index_idx h2

def nextI (o : Option Nat) : Int := match o with | some j => (j : Int) | none => -1

attribute [local irreducible] Calls in
set_option maxRecDepth 8000 in
set_option maxHeartbeats 1000000 in
theorem next_any (A : Option Addr) (n c : Nat) (b : List Nat) (i0 : Nat) (m : Int) (w : World) (hb : RB w A n b) (hc : n ≤ c) (hn : n ≤ 500000) (hi0 : i0 ≤ n) (hm : w.cell? ⟨0, 0, none⟩ = some (.int .i64 m)) :
    Calls Try.prog 57 #[.slice A n c, .int .i64 (i0 : Int)] w fun e w' => e = .returned (.int .i64 (nextI (find b i0))) ∧ Below w.heap.size w w' := by
  have kc := fun (w : World) (C : Array Value) (n c g : Nat) (hg : g = w.heap.size) => Joins.run_convert_bytes_const_at (P := Try.prog) w 22 5 C n c g hg Try.underlying22 Try.underlying5
  have HR := Lib.hid hb
  have HM := Lib.hid hm
  have HLEN := Lib.hid hb.1
  clear hb hm
  go_enter Try.func57, Try.ntmps57
  go_wp2
  go_loopw [1] (fun v wr => ∃ a : Nat, v = .int .i64 (a : Int) ∧ a ≤ n ∧ find b a = find b i0 ∧ Below w.heap.size w wr) (fun v _ => n - (intOf v).toNat)
  case atStart => exact ⟨i0, rfl, hi0, rfl, Below.refl _ _⟩
  case round =>
    obtain ⟨a, rfl, ha, hf, hB⟩ := hrel
    have HF := Lib.hid hf
    have HB := Lib.hid hB
    have hwq := hB.size
    clear hf hB
    by_cases han : a < n
    · have sl : ∀ w', (Instr.slice 22 (.slice A n c) (some (.int .i64 (a : Int))) none none).run Try.prog w' = .ok (.slice (cut A c a) (n - a) (c - a)) w' := slice_l A n c a ha
      have hra := (HR.out.below HB.out).drop (k := a) (cap := c) ha hc
      have hra2 : RB (wr.alloc (.cells #[.int .u8 99, .int .u8 117, .int .u8 98] 5 (3, 4))) (cut A c a) (n - a) (b.drop a) := hra.below ((Below.refl _ _).alloc (Nat.le_refl _) _)
      have hsep := RB.new wr #[.int .u8 99, .int .u8 117, .int .u8 98] 5 (3, 4) [99, 117, 98] rfl (by decide)
      have hB2 : Below w.heap.size w (wr.alloc (.cells #[.int .u8 99, .int .u8 117, .int .u8 98] 5 (3, 4))) := HB.out.alloc hwq _
      have hm2 := cell_later hB2 HM.out
      have HRA2 := Lib.hid hra2
      have HSEP := Lib.hid hsep
      have HB2 := Lib.hid hB2
      have HM2 := Lib.hid hm2
      clear hra hra2 hsep hB2 hm2
      go_wp2_with fail
      refine (index_any (cut A c a) (n - a) (c - a) (b.drop a) wr.heap.size 3 m _ HRA2.out (by omega) (by omega) (by omega) HSEP.out HM2.out).mono ?_
      rintro e w2 ⟨r, rfl, hidx, q, rfl⟩
      have hB3 := Below.dn HB2.out q
      generalize (wr.alloc (.cells #[.int .u8 99, .int .u8 117, .int .u8 98] 5 (3, 4))).drewN q = w3 at *
      rcases hidx with ⟨rfl, hno⟩ | ⟨i, rfl, hi3, hno⟩
      · have hnone : nextI (find b i0) = -1 := by
          rw [← HF.out, find_none (fun j hj => hd_none_cub (by have := hno (j - a); rw [List.drop_drop, show a + (j - a) = j by omega] at this; exact this))]; rfl
        have HN := Lib.hid hnone
        clear hnone hno HSEP HRA2 HB2 HM2
        go_wp2
        go_ret
        exact ⟨by rw [HN.out]; rfl, hB3⟩
      · rw [List.length_drop] at hi3
        have hfi : find b a = find b (a + i) := find_skip i (fun j hj => hd_none_cub (by have := hno j hj; rw [List.drop_drop] at this; exact this))
        have hai : a + i + 3 ≤ n := by have := HLEN.out; omega
        obtain ⟨p, hp⟩ : ∃ p, p = a + i := ⟨_, rfl⟩
        have hpi : (a : Int) + (i : Int) = (p : Int) := by omega
        rw [← hp] at hfi
        have slp : ∀ w', (Instr.slice 22 (.slice A n c) (some (.int .i64 (p : Int))) none none).run Try.prog w' = .ok (.slice (cut A c p) (n - p) (c - p)) w' := slice_l A n c p (by omega)
        have hrp := (HR.out.below hB3).drop (k := p) (cap := c) (by omega) hc
        have HRP := Lib.hid hrp
        have HFI := Lib.hid hfi
        have HB3 := Lib.hid hB3
        have hpn : p < n := by omega
        have hap : a ≤ p := by omega
        clear hno hi3 hfi hp hrp hB3 HSEP HRA2 HB2 HM2 sl hai
        go_wp2_with fail
        refine (head_any (cut A c p) (n - p) (c - p) (b.drop p) w3 HRP.out (by omega) (by omega)).mono ?_
        rintro e w4 ⟨x, y, f, rfl, h1, h2, hB4⟩
        have hB5 := HB3.out.trans (hB4.mono HB3.out.size)
        clear hB4
        cases hh : hd (b.drop p) with
        | none =>
          obtain rfl := h2 hh
          have hnx := find_next hh
          have HNX := Lib.hid hnx
          have HB5 := Lib.hid hB5
          clear h1 h2 hh hnx hB5
          go_wp2
          go_roundw
          case rel => exact ⟨p + 1, by go_num, by omega, by rw [← HNX.out, ← HFI.out, HF.out], HB5.out⟩
          case measure => simp [intOf]; omega
        | some r =>
          obtain ⟨k, nn⟩ := r
          obtain ⟨-, -, rfl⟩ := h1 k nn hh
          have hnx : nextI (find b i0) = (p : Int) := by rw [← HF.out, HFI.out, find_here hh]; rfl
          have HNX := Lib.hid hnx
          have HB5 := Lib.hid hB5
          clear h1 h2 hh hnx hB5
          go_wp2
          go_ret
          exact ⟨by rw [HNX.out]; rfl, HB5.out⟩
    · have hnone : nextI (find b i0) = -1 := by rw [← HF.out, find_end (by rw [HLEN.out]; omega)]; rfl
      have HN := Lib.hid hnone
      clear hnone
      go_wp2
      go_ret
      exact ⟨by rw [HN.out]; rfl, HB.out⟩
end Go.Proofs.Ytinndlofnpkfhaa
