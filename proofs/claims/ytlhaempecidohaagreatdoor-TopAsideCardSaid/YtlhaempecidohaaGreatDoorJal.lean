/-
  slices.Grow of a nil slice of bytes; slices.Concat of slices of bytes.
-/
import Derived.Lib.AppendZerosOnto
import Derived.Lib.SliceRun
import Derived.Lib.Walk
import Derived.Test.YtlhaempecidohaaGreatDoorJad
set_option linter.unusedSimpArgs false
set_option linter.unusedVariables false
namespace Go.Proofs.YtlhaempecidohaaGreatDoor
open Go.RowKit
theorem Tryz.underlying3 : Tryz.prog.underlying 3 = some (.int .i64) := by kernel_rfl
/-- A slice of bytes in a row of such. -/
def SlV (w : World) (v : List Value) (l : List Nat) : Prop := ∃ A n c, v = [.slice A n c] ∧ RB w A n l ∧ n ≤ c
/-- A slice of slices of bytes, read. -/
def Sls (w : World) (A : Option Addr) (n : Nat) (ls : List (List Nat)) : Prop := ∃ vs, RowR w A n 1 vs ∧ All2 (SlV w) vs ls
theorem Sls.len {w : World} {A : Option Addr} {n : Nat} {ls : List (List Nat)} (h : Sls w A n ls) : ls.length = n := by
  obtain ⟨vs, h1, h2⟩ := h
  rw [← h2.length, h1.len]
theorem Sls.at_ {w : World} {A : Option Addr} {n : Nat} {ls : List (List Nat)} (h : Sls w A n ls) {i : Nat} (hi : i < n) :
    ∃ g A' n' c' l, A = some ⟨g, 0, none⟩ ∧ ls[i]? = some l ∧ w.cell? ⟨g, i, none⟩ = some (.slice A' n' c') ∧ RB w A' n' l ∧ n' ≤ c' := by
  obtain ⟨vs, h1, h2⟩ := h
  obtain ⟨g, v, e1, e2, e3, e4⟩ := h1.at_ hi
  obtain ⟨l, e5, A', n', c', rfl, h3, h4⟩ := h2.left e2
  have := e4 0 (.slice A' n' c') rfl
  rw [Nat.mul_one, Nat.add_zero] at this
  exact ⟨g, A', n', c', l, e1, e5, this, h3, h4⟩
theorem Sls.below {w w' : World} {A : Option Addr} {n : Nat} {ls : List (List Nat)} (h : Sls w A n ls) (hb : Below w.heap.size w w') : Sls w' A n ls := by
  obtain ⟨vs, h1, h2⟩ := h
  exact ⟨vs, h1.below hb, h2.mono fun v l ⟨A, n, c, e, hr, hc⟩ => ⟨A, n, c, e, hr.below hb, hc⟩⟩
theorem RowR.lit (w : World) (cs : Array Value) (t : TypeId) (vs : List (List Value)) (k : Nat) (hcs : cs.toList = vs.flatten) (hk : ∀ v ∈ vs, v.length = k) (n : Nat) (hn : vs.length = n) :
    RowR (w.alloc (.cells cs t)) (some ⟨w.heap.size, 0, none⟩) n k vs := by
  refine ⟨hn, hk, fun _ => ⟨_, rfl, fun i v hv j u hu => ?_⟩⟩
  rw [cell_of_row _ _ _ cs t (0, 0) (heap_alloc_new w _), ← Array.getElem?_toList, hcs]
  exact flat_get hk hv hu
theorem Sls.pair {w : World} {A B : Option Addr} {n c m d : Nat} {a b : List Nat} (h1 : RB w A n a) (hc : n ≤ c) (h2 : RB w B m b) (hd : m ≤ d) (t : TypeId) :
    Sls (w.alloc (.cells #[.slice A n c, .slice B m d] t)) (some ⟨w.heap.size, 0, none⟩) 2 [a, b] := by
  have hb : Below w.heap.size w (w.alloc (.cells #[.slice A n c, .slice B m d] t)) := (Below.refl _ _).alloc (Nat.le_refl _) _
  refine ⟨[[.slice A n c], [.slice B m d]], RowR.lit w _ t [[.slice A n c], [.slice B m d]] 1 rfl (by simp) 2 rfl, ⟨A, n, c, rfl, h1.below hb, hc⟩, ⟨B, m, d, rfl, h2.below hb, hd⟩, trivial⟩
def Grown0 (w : World) (e : Ending) (w' : World) : Prop := ∃ A c, e = .returned (.slice A 0 c) ∧ Own w' w.heap.size A 0 c [] ∧ Below w.heap.size w w'
set_option maxRecDepth 8000 in
set_option maxHeartbeats 1000000 in
theorem grow_nil (n : Nat) (hn : n ≤ 20000000) (w : World) : Calls Tryz.prog 189 #[.slice none 0 0, .int .i64 (n : Int)] w (Grown0 w) := by
  rcases Nat.eq_zero_or_pos n with rfl | h0
  · go_enter Tryz.func189, Tryz.ntmps189
    go_wp2
    go_ret
    exact ⟨none, 0, rfl, Own.nil _ _, Below.refl _ _⟩
  · obtain ⟨i0, hi, hz0, hz1, hz2⟩ := info_parts Tryz.info5
    have hrz : ∀ ty, (Builtin.append_ #[23, 3] ty #[.slice none 0 0, .int .i64 (n : Int)]).run Tryz.prog w =
        .ok (.slice (some ⟨w.heap.size, 0, none⟩) n (grownCap w n 0 5)) (w.drew.alloc (.cells (#[] ++ Builtin.zeroCells (Value.int .u8 0).cells n ++ Builtin.zeroCells (Value.int .u8 0).cells (grownCap w n 0 5 - n)) 5)) := fun ty => by
      have h := Lib.run_append_grow_zeros w 23 3 ty 5 i0 (.int .u8 0) .i64 .i64 Tryz.underlying23 Tryz.underlying3 hi hz0 none 0 0 [] (by rw [hz1]; exact run_firstCells_none w.drew 1 0 0 0) n h0 (by rw [hz1]; decide) (by omega) (by omega) (by rw [hz2]; omega)
        (growslice_fits (by omega) (by rw [hz2]; omega))
      rw [Nat.zero_add] at h
      exact h
    have hGn : n ≤ grownCap w n 0 5 := grownCap_ge w _ _ _
    have hG63 := grownCap_le_maxLen w n 0 5 (by unfold maxLen; omega)
    obtain ⟨G, hG⟩ : ∃ G, G = grownCap w n 0 5 := ⟨_, rfl⟩
    rw [← hG] at hrz hGn hG63
    obtain ⟨cs, hcs⟩ : ∃ cs, cs = #[] ++ Builtin.zeroCells (Value.int .u8 0).cells n ++ Builtin.zeroCells (Value.int .u8 0).cells (G - n) := ⟨_, rfl⟩
    rw [← hcs] at hrz
    have hown : Hid (Own ((w.alloc (.cells cs 5)).drew) w.heap.size (some ⟨w.heap.size, 0, none⟩) 0 G []) :=
      (Own.made w cs G (Nat.le_refl _) hG63 (by rw [hcs]; simp [Builtin.zeroCells, Value.cells]; omega)).drew
    have HB : Hid (Below w.heap.size w ((w.alloc (.cells cs 5)).drew)) := ((Below.refl _ _).alloc (Nat.le_refl _) _).drew
    clear hcs
    unfold maxLen at hG63
    clear hG hi hz0 hz1 hz2
    go_enter Tryz.func189, Tryz.ntmps189
    go_wp2_with (at_builtin; refine Lib.wpList_append_run _ rfl _ _ _ _ rfl _ _ rfl rfl _ _ (hrz _) ?_)
    go_ret
    exact ⟨_, G, rfl, hown.out, HB.out⟩
theorem flat_take_succ {ls : List (List Nat)} {k : Nat} {l : List Nat} (h : ls[k]? = some l) : (ls.take (k + 1)).flatten = (ls.take k).flatten ++ l := by
  rw [List.take_add_one, h]
  simp
theorem flat_take_le (ls : List (List Nat)) (k : Nat) : (ls.take k).flatten.length ≤ ls.flatten.length := by
  have h := congrArg (fun x : List (List Nat) => x.flatten.length) (List.take_append_drop k ls)
  simp only [List.flatten_append, List.length_append] at h
  omega
def Joined (w : World) (l : List Nat) (e : Ending) (w' : World) : Prop := ∃ A c, e = .returned (.slice A l.length c) ∧ Own w' w.heap.size A l.length c l ∧ Below w.heap.size w w'
set_option maxRecDepth 8000 in
set_option maxHeartbeats 1000000 in
theorem concat_any (A : Option Addr) (n c : Nat) (ls : List (List Nat)) (w : World) (h : Sls w A n ls) (hn : n ≤ 1000000) (ht : ls.flatten.length ≤ 10000000) :
    Calls Tryz.prog 128 #[.slice A n c] w (Joined w ls.flatten) := by
  have hlen := h.len
  have H := Lib.hid h
  have HLEN := Lib.hid hlen
  clear h hlen
  go_enter Tryz.func128, Tryz.ntmps128
  go_wp2
  go_loop [3, 11] (fun v i => ∃ k : Nat, k ≤ n ∧ i = .int .i64 k ∧ v = .int .i64 (((ls.take k).flatten.length : Nat) : Int)) (fun _ i => n - (intOf i).toNat)
  case atStart => exact ⟨0, Nat.zero_le _, rfl, by simp⟩
  case round =>
    obtain ⟨k, hk, rfl, rfl⟩ := hrel
    by_cases hlt : k < n
    · obtain ⟨g, A', n', c', l, rfl, hl, hcell, hrb, hnc⟩ := H.out.at_ hlt
      have hs := congrArg List.length (flat_take_succ hl)
      rw [List.length_append, hrb.1] at hs
      have hle := flat_take_le ls (k + 1)
      obtain ⟨t0, h0⟩ : ∃ t, t = (ls.take k).flatten.length := ⟨_, rfl⟩
      obtain ⟨t1, h1⟩ : ∃ t, t = (ls.take (k + 1)).flatten.length := ⟨_, rfl⟩
      rw [← h0, ← h1] at hs
      rw [← h1] at hle
      rw [← h0]
      have ht1 : t0 + n' ≤ 10000000 := by omega
      have HS := Lib.hid hs
      have H1 := Lib.hid h1
      clear hl hrb hs hle h0 h1
      go_wp2
      go_round
      case rel => exact ⟨k + 1, by omega, by go_num, by rw [← H1.out, HS.out]; go_num⟩
      case measure => simp [intOf]; omega
    · obtain rfl : k = n := by omega
      have hfull : ls.take k = ls := List.take_of_length_le (by rw [HLEN.out]; exact Nat.le_refl _)
      rw [hfull]
      clear hfull
      obtain ⟨t, hT⟩ : ∃ t, t = ls.flatten.length := ⟨_, rfl⟩
      rw [← hT] at ht ⊢
      have HT := Lib.hid hT
      clear hT
      go_wp2_with fail
      refine (grow_nil t (by omega) w).mono ?_
      rintro e w1 ⟨A1, c1, rfl, hown, hb1⟩
      have HO := Lib.hid hown
      have HB := Lib.hid hb1
      clear hown hb1
      go_wp2
      go_loopw [6, 27] (fun v i wr => ∃ (q m : Nat) (A2 : Option Addr) (c2 : Nat), q ≤ k ∧ i = .int .i64 q ∧ v = .slice A2 m c2 ∧ Own wr w.heap.size A2 m c2 (ls.take q).flatten ∧ Below w.heap.size w wr) (fun _ i _ => k - (intOf i).toNat)
      case atStart => exact ⟨0, 0, A1, c1, Nat.zero_le _, rfl, rfl, by simpa using HO.out, HB.out⟩
      case round =>
        obtain ⟨q, m, A2, c2, hq, rfl, rfl, hown, hb⟩ := hrel
        have hm : m ≤ 10000000 := by rw [← hown.1]; have := flat_take_le ls q; have := HT.out; omega
        by_cases hlt : q < k
        · have hS := H.out.below hb
          obtain ⟨g, A', n', c', l, rfl, hl, hcell, hrb, hnc⟩ := hS.at_ hlt
          have hs := flat_take_succ hl
          have hm2 : m + n' ≤ 10000000 := by
            have h1 := congrArg List.length hs
            rw [List.length_append, hrb.1, hown.1] at h1
            have := flat_take_le ls (q + 1); have := HT.out; omega
          have HS := Lib.hid hs
          have HO2 := Lib.hid hown
          have HB2 := Lib.hid hb
          have HR := Lib.hid hrb
          have hsz := hb.size
          clear hs hS hl hown hb hrb
          go_wp2_with (at_builtin; refine wpList_append_rb rfl (.tmp 31) (.tmp 32) rfl rfl rfl HO2.out HR.out (by omega) hsz ?_; intro A3 c3 w3 hO3 ho3 _)
          have HO3 := Lib.hid hO3
          have HB3 : Hid (Below w.heap.size w w3) := HB2.out.trans (ho3.below hsz (fun i hi e => by have := (HO2.out.lt i e).1; omega))
          clear hO3 ho3
          go_roundw
          case rel => exact ⟨q + 1, m + n', A3, c3, by omega, by go_num, rfl, by rw [HS.out]; exact HO3.out, HB3.out⟩
          case measure => simp [intOf]; omega
        · obtain rfl : q = k := by omega
          have hfull : ls.take q = ls := List.take_of_length_le (by rw [HLEN.out]; exact Nat.le_refl _)
          rw [hfull] at hown
          have hmt : ls.flatten.length = m := hown.1
          have HO2 := Lib.hid hown
          have HB2 := Lib.hid hb
          have HM := Lib.hid hmt
          clear hfull hown hb hmt
          go_wp2
          go_ret
          exact ⟨A2, c2, by rw [HM.out]; rfl, by rw [HM.out]; exact HO2.out, HB2.out⟩
end Go.Proofs.YtlhaempecidohaaGreatDoor
