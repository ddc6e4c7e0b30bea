/-
  The walk of head.lower: a text in small letters, of A to Z.
-/
import Derived.Test.YtigkjjbdbficnaaDoorStr
namespace Go.Proofs.YtigkjjbdbficnaaDoor
open Go.RowKit

def small (c : Nat) : Nat := if 65 ≤ c ∧ c ≤ 90 then c + 32 else c
theorem small_lt (c : Nat) (h : c < 256) : small c < 256 := by unfold small; split <;> omega
def low (l : List Nat) : List Nat := l.map small
def lowS (s : ByteArray) : ByteArray := str (low (ofStr s))
theorem low_lt (l : List Nat) (h : ∀ x ∈ l, x < 256) : ∀ x ∈ low l, x < 256 := by
  intro x hx
  simp only [low, List.mem_map] at hx
  obtain ⟨y, hy, rfl⟩ := hx
  exact small_lt y (h y hy)
/-- The first k in small letters. -/
def lowTo (l : List Nat) (k : Nat) : List Nat := low (l.take k) ++ l.drop k
theorem lowTo_length (l : List Nat) (k : Nat) : (lowTo l k).length = l.length := by simp [lowTo, low]; omega
theorem lowTo_at (l : List Nat) (k x : Nat) (h : l[k]? = some x) : (lowTo l k)[k]? = some x := by
  have hk : k < l.length := (List.getElem?_eq_some_iff.1 h).1
  have e : (low (l.take k)).length = k := by simp [low]; omega
  rw [lowTo, List.getElem?_append_right (by omega), e, Nat.sub_self, List.getElem?_drop, Nat.add_zero, h]
theorem lowTo_succ (l : List Nat) (k x : Nat) (h : l[k]? = some x) : lowTo l (k + 1) = (lowTo l k).set k (small x) := by
  have hk : k < l.length := (List.getElem?_eq_some_iff.1 h).1
  have e : (low (l.take k)).length = k := by simp [low]; omega
  have hd : l.drop k = x :: l.drop (k + 1) := by
    rw [List.drop_eq_getElem_cons hk]
    congr 1
    exact (List.getElem?_eq_some_iff.1 h).2
  unfold lowTo
  rw [List.set_append_right _ _ (by omega), e, Nat.sub_self, hd, List.set_cons_zero, List.take_add_one, h]
  simp [low]

/-- Block g holds, at its head, the bytes l, and may be written there. -/
def LB (w : World) (g : Nat) (l : List Nat) : Prop :=
  ∃ cs fr, w.heap[g]? = some (.cells cs 5 fr) ∧ l.length ≤ cs.size ∧ fr.1 = cs.size ∧ ∀ (j x : Nat), l[j]? = some x → cs[j]? = some (.int .u8 (x : Int))
theorem LB.bytes (w w0 : World) (s : ByteArray) : LB (w.alloc (bobj w0 s)) w.heap.size (ofStr s) := by
  refine ⟨_, _, heap_alloc_new w _, ?_, rfl, fun j x hj => ?_⟩
  · rw [ofStr_length, bytesRow, Array.size_append, Array.size_map]; show s.data.size ≤ _; omega
  · have hjl : j < s.data.size := by
      have := (List.getElem?_eq_some_iff.1 hj).1
      rw [ofStr_length] at this
      exact this
    simp only [ofStr, List.getElem?_map, Array.getElem?_toList, Option.map_eq_some_iff] at hj
    obtain ⟨u, hu, rfl⟩ := hj
    rw [bytesRow, Array.getElem?_append_left (by simpa using hjl), Array.getElem?_map, hu]
    rfl
theorem LB.cell {w : World} {g : Nat} {l : List Nat} (h : LB w g l) {j x : Nat} (hj : l[j]? = some x) : w.cell? ⟨g, j, none⟩ = some (.int .u8 (x : Int)) := by
  obtain ⟨cs, fr, h1, h2, h3, h4⟩ := h
  rw [cell_of_row w g j cs 5 fr h1, h4 j x hj]
theorem LB.frozen {w : World} {g : Nat} {l : List Nat} (h : LB w g l) {j x : Nat} (hj : l[j]? = some x) : w.frozen? ⟨g, j, none⟩ = false := by
  obtain ⟨cs, fr, h1, h2, h3, h4⟩ := h
  have hl : j < l.length := (List.getElem?_eq_some_iff.1 hj).1
  simp [World.frozen?, h1]
  omega
theorem LB.set_ {w : World} {g : Nat} {l : List Nat} (h : LB w g l) (k y : Nat) : LB (w.setCell ⟨g, k, none⟩ (.int .u8 (y : Int))) g (l.set k y) := by
  obtain ⟨cs, fr, h1, h2, h3, h4⟩ := h
  refine ⟨cs.setIfInBounds k (.int .u8 (y : Int)), fr, ?_, ?_, ?_, fun j x hj => ?_⟩
  · simp [World.setCell, Array.getElem?_modify, h1]
  · simpa using h2
  · simpa using h3
  · rw [List.getElem?_set] at hj
    rw [Array.getElem?_setIfInBounds]
    by_cases hk : k = j
    · subst hk
      rw [if_pos rfl] at hj ⊢
      split at hj
      · rw [if_pos (by omega)]
        injection hj with hj
        rw [hj]
      · cases hj
    · rw [if_neg hk] at hj ⊢
      exact h4 j x hj
theorem LB.read {w : World} {g : Nat} {l : List Nat} (h : LB w g l) (hl : ∀ x ∈ l, x < 256) : RB w (some ⟨g, 0, none⟩) l.length l := by
  refine ⟨rfl, hl, fun _ => ⟨_, rfl, fun j x hj => ?_⟩⟩
  have e2 : (⟨g, 0, none⟩ : Addr).add j = ⟨g, j, none⟩ := by
    by_cases h0 : j = 0
    · subst h0; rfl
    · simp [Addr.add, h0]
  rw [e2]
  exact h.cell hj

set_option maxHeartbeats 1000000 in
theorem lower_any (s : ByteArray) (w : World) (hs : s.size ≤ 1000000) :
    Calls Tryd.prog 17 #[.string s] w fun e w' => e = .returned (.string (lowS s)) ∧ Below w.heap.size w w' := by
  have hrb := run_bytes s
  have hlen := ofStr_length s
  have hlt := ofStr_lt s
  obtain ⟨l, hl⟩ : ∃ l, l = ofStr s := ⟨_, rfl⟩
  have HR : Hid (lowS s = str (low l)) := by show _ = _; rw [hl]; rfl
  have hL0 : LB (w.drew.alloc (bobj w s)) w.heap.size l := by rw [hl]; exact LB.bytes w.drew w s
  have hb0 : Below w.heap.size w (w.drew.alloc (bobj w s)) := (Below.refl _ w).drew.alloc (Nat.le_refl _) _
  rw [← hl] at hlen hlt
  clear hl
  go_enter Tryd.func17, Tryd.ntmps17
  go_wp2
  go_loopw [10] (fun i wr => ∃ k : Nat, k ≤ s.size ∧ i = .int .i64 k ∧ LB wr w.heap.size (lowTo l k) ∧ Below w.heap.size w wr) (fun i _ => s.size - (intOf i).toNat)
  case atStart =>
    have e : lowTo l 0 = l := by simp [lowTo, low]
    rw [← e] at hL0
    exact ⟨0, Nat.zero_le _, rfl, hL0, hb0⟩
  case round =>
    obtain ⟨k, hk, rfl, hLB, hbr⟩ := hrel
    have hsz := hbr.size
    by_cases hlt2 : k < s.size
    · obtain ⟨x, hx⟩ : ∃ x, l[k]? = some x := ⟨_, List.getElem?_eq_getElem (by omega)⟩
      have hx2 : x < 256 := hlt x (List.mem_of_getElem? hx)
      have hat := lowTo_at l k x hx
      have hc := hLB.cell hat
      have hf := hLB.frozen hat
      have HS := Lib.hid (lowTo_succ l k x hx)
      have hset := hLB.set_ k (small x)
      have HL := Lib.hid hLB
      have HX := Lib.hid hx
      clear hx hat hLB
      by_cases hup : 65 ≤ x ∧ x ≤ 90
      · have hsm : small x = x + 32 := by unfold small; rw [if_pos hup]
        rw [hsm] at HS hset
        obtain ⟨u1, u2⟩ := hup
        have hb2 : Below w.heap.size w (wr.setCell ⟨w.heap.size, k, none⟩ (.int .u8 ((x + 32 : Nat) : Int))) := hbr.setCell (Nat.le_refl _) _
        have HSET := Lib.hid hset
        have HB2 := Lib.hid hb2
        have t1 : decide ((65 : Int) ≤ (x : Int)) = true := by simp; omega
        have t2 : decide ((x : Int) ≤ 90) = true := by simp; omega
        have ex : (x : Int) + 97 - 65 = ((x + 32 : Nat) : Int) := by omega
        clear hset hb2 hsm
        go_wp2
        go_roundw
        case rel => exact ⟨k + 1, by omega, by go_num, by rw [HS.out]; exact HSET.out, HB2.out⟩
        case measure => simp [intOf]; omega
      · have hsm : small x = x := by unfold small; rw [if_neg hup]
        have hsame : (lowTo l k).set k x = lowTo l k := by
          apply List.ext_getElem?
          intro j
          rw [List.getElem?_set]
          split
          · rename_i e
            subst e
            split
            · exact (lowTo_at l k x HX.out).symm
            · rename_i h
              exact absurd (by rw [lowTo_length]; omega) h
          · rfl
        rw [hsm, hsame] at HS
        have HB2 := Lib.hid hbr
        clear hset hsm hsame hbr
        have hcase : x < 65 ∨ (65 ≤ x ∧ 90 < x) := by omega
        rcases hcase with h1 | ⟨h1, h2⟩
        · go_wp2
          go_roundw
          case rel => exact ⟨k + 1, by omega, by go_num, by rw [HS.out]; exact HL.out, HB2.out⟩
          case measure => simp [intOf]; omega
        · go_wp2
          go_roundw
          case rel => exact ⟨k + 1, by omega, by go_num, by rw [HS.out]; exact HL.out, HB2.out⟩
          case measure => simp [intOf]; omega
    · obtain rfl : k = s.size := by omega
      have e : lowTo l s.size = low l := by rw [lowTo, List.take_of_length_le (by omega), List.drop_of_length_le (by omega), List.append_nil]
      rw [e] at hLB
      have hr := hLB.read (low_lt l hlt)
      rw [show (low l).length = s.size from by rw [low, List.length_map, hlen]] at hr
      have hconv := conv_rb hr (bcap w s)
      clear hLB hr e
      go_wp2
      go_ret
      exact ⟨by rw [HR.out]; rfl, hbr⟩
end Go.Proofs.YtigkjjbdbficnaaDoor
