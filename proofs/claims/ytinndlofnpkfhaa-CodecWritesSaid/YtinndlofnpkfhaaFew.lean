/-
  The statements' own 'few' of layer 3.
-/
import Derived.Test.YtinndlofnpkfhaaItems
namespace Go.Proofs.Ytinndlofnpkfhaa
open Go.RowKit

def sumN (R : List Item) : Nat := (R.map (·.n)).sum
theorem sumN_snoc (R : List Item) (x : Item) : sumN (R ++ [x]) = sumN R + x.n := by simp [sumN]
def isFew (R : List Item) : Prop := R.length ≤ 100 ∧ sumN R ≤ 200000

def Fewed (R : List Item) (w : World) (e : Ending) (w' : World) : Prop := ∃ f : Bool, e = .returned (.bool f) ∧ (f = true → isFew R) ∧ w' = w

set_option maxRecDepth 8000 in
set_option maxHeartbeats 1000000 in
theorem few_any (A : Option Addr) (n c : Nat) (R : List Item) (w : World) (h : Items w A n R) :
    Calls Try.prog 20 #[.slice A n c] w (Fewed R w) := by
  have HI := Lib.hid h
  clear h
  go_enter Try.func20, Try.ntmps20
  go_wp2
  go_loop [7, 3] (fun v v3 => ∃ i s : Nat, i ≤ n ∧ i ≤ 100 ∧ v = .int .i64 (i : Int) ∧ v3 = .int .i64 (s : Int) ∧ s = sumN (R.take i) ∧ s ≤ 200000) (fun v _ => n - (intOf v).toNat)
  case atStart => exact ⟨0, 0, Nat.zero_le _, Nat.zero_le _, rfl, rfl, rfl, Nat.zero_le _⟩
  case round =>
    obtain ⟨i, s, hi, hi100, rfl, rfl, hs, hs2⟩ := hrel
    by_cases hin : i < n
    · have hin' : (i : Int) < (n : Int) := by omega
      obtain ⟨ad, x, rfl, hx, c0, c1, c2, c3, -, -, hxn, -⟩ := HI.out.at_ hin
      have htk : sumN (R.take (i + 1)) = s + x.n := by rw [List.take_add_one, hx, hs]; exact sumN_snoc _ _
      obtain ⟨t, ht⟩ : ∃ t, t = s + x.n := ⟨_, rfl⟩
      rw [← ht] at htk
      have HT := Lib.hid htk
      have hst : (s : Int) + (x.n : Int) = (t : Int) := by omega
      have htb : t ≤ 140737488555328 := by omega
      clear hs hx htk ht
      by_cases h100 : 100 ≤ i
      · go_wp2
        go_ret
        exact ⟨false, rfl, (fun h => by cases h), rfl⟩
      · have d1 : decide (100 ≤ (i : Int)) = false := by simp; omega
        by_cases h2 : 200000 < t
        · have d2 : decide (200000 < (t : Int)) = true := by simp; omega
          go_wp2
          go_ret
          exact ⟨false, rfl, (fun h => by cases h), rfl⟩
        · have d2 : decide (200000 < (t : Int)) = false := by simp; omega
          go_wp2
          go_round
          case rel => exact ⟨i + 1, t, hin, by omega, by go_num, rfl, HT.out.symm, by omega⟩
          case measure => simp [intOf]; omega
    · have htk : R.take i = R := List.take_of_length_le (by rw [HI.out.1]; omega)
      rw [htk] at hs
      have hfew : isFew R := ⟨by rw [HI.out.1]; omega, by rw [← hs]; exact hs2⟩
      clear hs htk
      go_wp2
      go_ret
      exact ⟨true, rfl, fun _ => hfew, rfl⟩
end Go.Proofs.Ytinndlofnpkfhaa
