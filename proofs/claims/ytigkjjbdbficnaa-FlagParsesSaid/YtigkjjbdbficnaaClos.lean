/-
  The walks of the closure in flag.Parse, and of slices.IndexFunc over it.
-/
import Derived.Test.YtigkjjbdbficnaaLower
import Derived.Test.YtigkjjbdbficnaaPrint
import Derived.Deep.RegionHeld
import Derived.Deep.DrawnRows
namespace Go.Proofs.Ytigkjjbdbficnaa
open Go.RowKit
attribute [local go_sem ↓] Go.wp_at_zero Go.wp_at_succ

def alikeB (n s : ByteArray) : Bool := decide (lowS n = lowS s)
theorem lowS_lt (s : ByteArray) : ∀ x ∈ low (ofStr s), x < 256 := low_lt _ (ofStr_lt s)
theorem lowS_eq (n s : ByteArray) : ((lowS n).toList == (lowS s).toList) = alikeB n s := by
  unfold alikeB
  by_cases h : lowS n = lowS s
  · rw [h]; simp
  · rw [decide_eq_false h]
    exact str_ne (lowS_lt n) (lowS_lt s) (fun e => h (by unfold lowS; rw [e]))

set_option maxHeartbeats 1000000 in
theorem clos_any (n s : ByteArray) (sb : Nat) (w : World) (hc : w.cell? ⟨sb, 0, none⟩ = some (.string s)) (hn : n.size ≤ 1000000) (hs : s.size ≤ 1000000) :
    Calls Try.prog 16 #[.string n, .pointer (some ⟨sb, 0, none⟩)] w fun e w' => e = .returned (.bool (alikeB n s)) ∧ Below w.heap.size w w' := by
  have heq := lowS_eq n s
  have hcd : w.drew.cell? ⟨sb, 0, none⟩ = some (.string s) := hc
  go_enter Try.func16, Try.ntmps16
  go_wp2_with fail
  go_region_held (fun w' => w'.cell? ⟨sb, 0, none⟩ = some (.string s))
    (first | assumption)
    ((first | (go_at_call_of 17 n; refine (lower_any n w.drew hn).mono ?_; rintro e w1 ⟨rfl, hb1⟩; have hc1 := cell_later hb1 hcd) | (go_at_call_of 17 s; refine (lower_any s w1 hs).mono ?_; rintro e w2 ⟨rfl, hb2⟩; have hc2 := cell_later hb2 hc1)))
  go_wp2
  go_ret
  exact ⟨rfl, (show Below w.heap.size w w1 from ⟨hb1.os, hb1.tape, hb1.output, hb1.size, hb1.block⟩).trans (hb2.mono hb1.size)⟩

/-- Which of the names a text is, in any letters. -/
def idxO (s : ByteArray) : Option Nat := (List.range 5).find? fun j => alikeB (NM.getD j ⟨#[]⟩) s
def idxI (s : ByteArray) : Int := match idxO s with | some k => k | none => -1
theorem idx_none (s : ByteArray) (h : ∀ j, j < 5 → alikeB (NM.getD j ⟨#[]⟩) s = false) : idxI s = -1 := by
  have : idxO s = none := by
    unfold idxO
    rw [List.find?_eq_none]
    intro j hj
    rw [h j (List.mem_range.1 hj)]
    decide
  rw [idxI, this]
theorem idx_some (s : ByteArray) (k : Nat) (hk : k < 5) (h : ∀ j, j < k → alikeB (NM.getD j ⟨#[]⟩) s = false) (h1 : alikeB (NM.getD k ⟨#[]⟩) s = true) : idxI s = k := by
  have : idxO s = some k := by
    unfold idxO
    rw [List.find?_range_eq_some]
    exact ⟨h1, by simpa using hk, fun j hj => by rw [h j hj]; rfl⟩
  rw [idxI, this]
theorem NM_size (k : Nat) (s : ByteArray) (h : NM[k]? = some s) : s.size ≤ 1000000 := by
  have : s ∈ NM := List.mem_of_getElem? h
  have H : ∀ x ∈ NM, x.size ≤ 1000000 := by decide
  exact H s this

set_option maxHeartbeats 1000000 in
theorem indexFunc_any (N : Option Addr) (c : Nat) (s : ByteArray) (sb : Nat) (w : World) (hN : RS w N 5 NM) (hc : w.cell? ⟨sb, 0, none⟩ = some (.string s)) (hs : s.size ≤ 1000000) :
    Calls Try.prog 14 #[.slice N 5 c, .func (Fn.func 16) #[] #[.pointer (some ⟨sb, 0, none⟩)]] w fun e w' => e = .returned (.int .i64 (idxI s)) ∧ Below w.heap.size w w' := by
  go_enter Try.func14, Try.ntmps14
  go_wp2_with fail
  go_loopw [8] (fun i wr => ∃ k : Nat, k ≤ 5 ∧ i = .int .i64 k ∧ (∀ j, j < k → alikeB (NM.getD j ⟨#[]⟩) s = false) ∧ Below w.heap.size w wr) (fun i _ => 5 - (intOf i).toNat)
  case atStart => exact ⟨0, by omega, rfl, fun j hj => by omega, Below.refl _ _⟩
  case round =>
    obtain ⟨k, hk, rfl, hno, hbr⟩ := hrel
    have HNO := Lib.hid hno
    have HB := Lib.hid hbr
    by_cases hlt : k < 5
    · obtain ⟨ad, x, rfl, hx, hcell⟩ := (hN.below hbr).at_ hlt
      have hcr := cell_later hbr hc
      have hxs := NM_size k x hx
      have hxk : NM.getD k ⟨#[]⟩ = x := by rw [List.getD_eq_getElem?_getD, hx]; rfl
      have HX := Lib.hid hxk
      have HC := Lib.hid (clos_any x s sb wr hcr hxs hs)
      clear hno hbr hx hxk
      cases hA : alikeB x s
      · rw [hA] at HC
        have HA := Lib.hid hA
        clear hA
        go_wp2_with fail
        refine HC.out.mono ?_
        rintro e w1 ⟨rfl, hb1⟩
        have HB1 := Lib.hid (HB.out.trans (hb1.mono HB.out.size))
        clear hb1
        go_wp2
        go_roundw
        case rel =>
          refine ⟨k + 1, by omega, by go_num, fun j hj => ?_, HB1.out⟩
          rcases Nat.lt_or_ge j k with h | h
          · exact HNO.out j h
          · rw [show j = k from by omega, HX.out]; exact HA.out
        case measure => simp [intOf]; omega
      · rw [hA] at HC
        have HA := Lib.hid hA
        clear hA
        have hI := idx_some s k hlt HNO.out (by rw [HX.out]; exact HA.out)
        have HI := Lib.hid hI
        clear hI
        go_wp2_with fail
        refine HC.out.mono ?_
        rintro e w1 ⟨rfl, hb1⟩
        have HB1 := Lib.hid (HB.out.trans (hb1.mono HB.out.size))
        clear hb1
        go_wp2
        go_ret
        exact ⟨by rw [HI.out]; rfl, HB1.out⟩
    · obtain rfl : k = 5 := by omega
      have HI := Lib.hid (idx_none s hno)
      clear hno hbr
      go_wp2
      go_ret
      exact ⟨by rw [HI.out]; rfl, HB.out⟩
end Go.Proofs.Ytigkjjbdbficnaa
