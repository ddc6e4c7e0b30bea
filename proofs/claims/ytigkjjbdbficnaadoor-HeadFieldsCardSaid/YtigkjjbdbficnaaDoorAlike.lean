/-
  The walks of the reference's small, Alike.
-/
import Derived.Test.YtigkjjbdbficnaaDoorLower
import Derived.Deep.RegionHeld
import Derived.Deep.DrawnRows
import Derived.Deep.QuietTactic
import Derived.BigQuiet
namespace Go.Proofs.YtigkjjbdbficnaaDoor
open Go.RowKit

def alikeB (n s : ByteArray) : Bool := decide (lowS n = lowS s)
theorem lowS_lt (s : ByteArray) : ∀ x ∈ low (ofStr s), x < 256 := low_lt _ (ofStr_lt s)
theorem lowS_eq (n s : ByteArray) : ((lowS n).toList == (lowS s).toList) = alikeB n s := by
  unfold alikeB
  by_cases h : lowS n = lowS s
  · rw [h]; simp
  · rw [decide_eq_false h]
    exact str_ne (lowS_lt n) (lowS_lt s) (fun e => h (by unfold lowS; rw [e]))


set_option maxHeartbeats 400000 in
theorem small_any (x : Nat) (hx : x < 256) (w : World) : Calls Tryd.prog 16 #[.int .u8 (x : Int)] w fun e w' => e = .returned (.int .u8 ((small x : Nat) : Int)) ∧ w' = w := by
  by_cases h : 65 ≤ x ∧ x ≤ 90
  · have e1 : small x = x + 32 := by unfold small; rw [if_pos h]
    obtain ⟨h1, h2⟩ := h
    rw [e1]
    clear e1
    go_enter Tryd.func16, Tryd.ntmps16
    go_wp2
    go_ret
    exact ⟨rfl, rfl⟩
  · have e1 : small x = x := by unfold small; rw [if_neg h]
    rw [e1]
    clear e1
    have hc : x < 65 ∨ (65 ≤ x ∧ 90 < x) := by omega
    rcases hc with h1 | ⟨h1, h2⟩
    · go_enter Tryd.func16, Tryd.ntmps16
      go_wp2
      go_ret
      exact ⟨rfl, rfl⟩
    · go_enter Tryd.func16, Tryd.ntmps16
      go_wp2
      go_ret
      exact ⟨rfl, rfl⟩

theorem ofStr_at (s : ByteArray) (k : Nat) (h : k < s.size) : ∃ x, (ofStr s)[k]? = some x ∧ x < 256 ∧ ∀ w : World, (Instr.index 9 (.string s) (.int .i64 (k : Int))).run Tryd.prog w = .ok (.int .u8 (x : Int)) w := by
  have hd : k < s.data.size := h
  refine ⟨s.data[k].toNat, ?_, s.data[k].toNat_lt, fun w => ?_⟩
  · rw [ofStr, List.getElem?_map, Array.getElem?_toList, Array.getElem?_eq_getElem hd]
    rfl
  · rw [run_index_string w 9 s .i64 (k : Int) Tryd.underlying9, dif_pos ⟨by omega, by omega⟩]
    rfl

theorem low_get (l : List Nat) (k x : Nat) (h : l[k]? = some x) : (low l)[k]? = some (small x) := by simp [low, h]
theorem lowS_of (a b : ByteArray) : (lowS a = lowS b) ↔ low (ofStr a) = low (ofStr b) :=
  ⟨fun h => str_inj (lowS_lt a) (lowS_lt b) h, fun h => by unfold lowS; rw [h]⟩
theorem alikeB_t {a b : ByteArray} (h : low (ofStr a) = low (ofStr b)) : alikeB a b = true := by unfold alikeB; rw [decide_eq_true ((lowS_of a b).2 h)]
theorem alikeB_f {a b : ByteArray} (h : low (ofStr a) ≠ low (ofStr b)) : alikeB a b = false := by unfold alikeB; rw [decide_eq_false (fun e => h ((lowS_of a b).1 e))]

set_option maxHeartbeats 1000000 in
theorem alike_any (a b : ByteArray) (w : World) (ha : a.size ≤ 1000000) :
    Calls Tryd.prog 9 #[.string a, .string b] w fun e w' => e = .returned (.bool (alikeB a b)) ∧ ∃ n, w' = w.drewN n := by
  by_cases hl : a.size = b.size
  · have h1 : ((a.size : Int) != (b.size : Int)) = false := by rw [bne_eq_false_iff_eq]; omega
    have HL := Lib.hid hl
    clear hl
    go_enter Tryd.func9, Tryd.ntmps9
    go_wp2_with fail
    go_loopw [13] (fun i wr => ∃ k : Nat, k ≤ a.size ∧ i = .int .i64 k ∧ (∀ j, j < k → (low (ofStr a))[j]? = (low (ofStr b))[j]?) ∧ ∃ m, wr = w.drewN m) (fun i _ => a.size - (intOf i).toNat)
    case atStart => exact ⟨0, Nat.zero_le _, rfl, fun j hj => by omega, 0, rfl⟩
    case round =>
      obtain ⟨k, hk, rfl, hsame, m, hwr⟩ := hrel
      have HW := Lib.hid hwr
      clear hwr
      have HS := Lib.hid hsame
      clear hsame
      by_cases hlt : k < a.size
      · obtain ⟨x, hx, hx2, hrx⟩ := ofStr_at a k hlt
        obtain ⟨y, hy, hy2, hry⟩ := ofStr_at b k (by rw [← HL.out]; exact hlt)
        have HX := Lib.hid (low_get _ k x hx)
        have HY := Lib.hid (low_get _ k y hy)
        clear hx hy
        have cx := fun W => small_any x hx2 W
        have cy := fun W => small_any y hy2 W
        have CX := Lib.hid cx
        have CY := Lib.hid cy
        clear cx cy
        generalize small x = x2 at *
        generalize small y = y2 at *
        by_cases hxy : x2 = y2
        · have hne : ((x2 : Int) != (y2 : Int)) = false := by rw [bne_eq_false_iff_eq]; omega
          have HXY := Lib.hid hxy
          clear hxy
          go_wp2_with fail
          go_quiet ((first | (go_at_call_of 16 x; exact Calls.quiet_of_same (CX.out _)) | (go_at_call_of 16 y; exact Calls.quiet_of_same (CY.out _))))
          go_wp2
          go_roundw
          case rel =>
            refine ⟨k + 1, by omega, by go_num, fun j hj => ?_, _, by rw [HW.out, World.drewN_drewN]⟩
            rcases Nat.lt_or_ge j k with h | h
            · exact HS.out j h
            · rw [show j = k from by omega, HX.out, HY.out, HXY.out]
          case measure => simp [intOf]; omega
        · have hne : ((x2 : Int) != (y2 : Int)) = true := by rw [bne_iff_ne]; omega
          have HF : Hid (alikeB a b = false) := by
            refine alikeB_f (fun e => hxy ?_)
            have h1 := HX.out
            rw [e, HY.out] at h1
            injection h1 with h1
            exact h1.symm
          clear hxy
          go_wp2_with fail
          go_quiet ((first | (go_at_call_of 16 x; exact Calls.quiet_of_same (CX.out _)) | (go_at_call_of 16 y; exact Calls.quiet_of_same (CY.out _))))
          go_wp2
          go_ret
          exact ⟨by rw [HF.out]; rfl, _, by rw [HW.out, World.drewN_drewN]⟩
      · obtain rfl : k = a.size := by omega
        have HT : Hid (alikeB a b = true) := by
          refine alikeB_t ?_
          apply List.ext_getElem?
          intro j
          rcases Nat.lt_or_ge j a.size with h | h
          · exact HS.out j h
          · have e1 : (low (ofStr a)).length ≤ j := by simp [low, ofStr_length]; exact h
            have e2 : (low (ofStr b)).length ≤ j := by simp [low, ofStr_length]; rw [← HL.out]; exact h
            rw [List.getElem?_eq_none e1, List.getElem?_eq_none e2]
        go_wp2
        go_ret
        exact ⟨by rw [HT.out]; rfl, m, HW.out⟩
  · have h1 : ((a.size : Int) != (b.size : Int)) = true := by rw [bne_iff_ne]; omega
    have hf : alikeB a b = false := by
      refine alikeB_f (fun e => hl ?_)
      have := congrArg List.length e
      simpa [low, ofStr_length] using this
    rw [hf]
    clear hl hf
    go_enter Tryd.func9, Tryd.ntmps9
    go_wp2
    go_ret
    exact ⟨rfl, 0, rfl⟩
end Go.Proofs.YtigkjjbdbficnaaDoor
