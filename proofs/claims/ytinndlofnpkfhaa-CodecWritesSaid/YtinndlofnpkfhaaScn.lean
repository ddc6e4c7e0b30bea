/-
  Package frame in plain Lean: what a right head tells, where the next stands, all records of bytes.
-/
import Derived.Test.YtinndlofnpkfhaaSha
import Derived.Test.YtinndlofnpkfhaaCrc
import Derived.Test.YtinndlofnpkfhaaNum
namespace Go.Proofs.Ytinndlofnpkfhaa

/-- the kind and the payload's length that a right head tells -/
def hd (b : List Nat) : Option (Nat × Nat) :=
  if 44 ≤ b.length ∧ b.take 3 = [99, 117, 98] ∧ 1 ≤ num ((b.drop 3).take 1) ∧ num ((b.drop 3).take 1) ≤ 3 ∧ num ((b.drop 4).take 4) ≤ 30000 ∧ num ((b.drop 8).take 4) = Crc.crc (b.take 8) then
    some (num ((b.drop 3).take 1), num ((b.drop 4).take 4)) else none

theorem hd_none_short {b : List Nat} (h : b.length < 44) : hd b = none := by
  unfold hd; rw [if_neg (fun hh => by omega)]
theorem hd_none_cub {b : List Nat} (h : b.take 3 ≠ [99, 117, 98]) : hd b = none := by
  unfold hd; rw [if_neg (fun hh => h hh.2.1)]
theorem hd_cub {b : List Nat} {r : Nat × Nat} (h : hd b = some r) : 44 ≤ b.length ∧ b.take 3 = [99, 117, 98] := by
  unfold hd at h
  split at h
  · rename_i hh; exact ⟨hh.1, hh.2.1⟩
  · cases h
theorem hd_le {b : List Nat} {k n : Nat} (h : hd b = some (k, n)) : 1 ≤ k ∧ k ≤ 3 ∧ n ≤ 30000 := by
  unfold hd at h
  split at h
  · rename_i hh
    simp only [Option.some.injEq, Prod.mk.injEq] at h
    obtain ⟨rfl, rfl⟩ := h
    exact ⟨hh.2.2.1, hh.2.2.2.1, hh.2.2.2.2.1⟩
  · cases h

/-- the first place from 'at' on at which a right head stands -/
def find (b : List Nat) (i : Nat) : Option Nat :=
  if i < b.length then (if (hd (b.drop i)).isSome then some i else find b (i + 1)) else none
termination_by b.length - i

theorem find_end {b : List Nat} {i : Nat} (h : b.length ≤ i) : find b i = none := by rw [find, if_neg (by omega)]
theorem find_here {b : List Nat} {i : Nat} {r : Nat × Nat} (h : hd (b.drop i) = some r) : find b i = some i := by
  have := (hd_cub h).1
  rw [List.length_drop] at this
  rw [find, if_pos (by omega), h]; rfl
theorem find_next {b : List Nat} {i : Nat} (h : hd (b.drop i) = none) : find b i = find b (i + 1) := by
  by_cases hi : i < b.length
  · conv => lhs; rw [find]
    rw [if_pos hi, h]; rfl
  · rw [find_end (by omega), find_end (by omega)]
theorem find_skip {b : List Nat} {i : Nat} : ∀ d, (∀ j, j < d → hd (b.drop (i + j)) = none) → find b i = find b (i + d)
  | 0, _ => rfl
  | d + 1, h => by rw [find_skip d (fun j hj => h j (by omega)), find_next (h d (by omega)), Nat.add_assoc]
theorem find_none {b : List Nat} {i : Nat} (h : ∀ j, i ≤ j → hd (b.drop j) = none) : find b i = none := by
  by_cases hi : i < b.length
  · rw [find_skip (b.length - i) (fun j _ => h (i + j) (by omega)), find_end (by omega)]
  · exact find_end (by omega)
theorem find_spec {b : List Nat} {i j : Nat} (h : find b i = some j) : i ≤ j ∧ j < b.length ∧ ∃ k n, hd (b.drop j) = some (k, n) := by
  induction hm : b.length - i generalizing i with
  | zero => rw [find_end (by omega)] at h; cases h
  | succ m ih =>
    rw [find, if_pos (by omega)] at h
    split at h
    · rename_i hs
      cases h
      obtain ⟨⟨k, n⟩, hr⟩ := Option.isSome_iff_exists.1 hs
      exact ⟨Nat.le_refl _, by omega, k, n, hr⟩
    · have := ih h (by omega)
      exact ⟨by omega, this.2⟩

/-- a record: where it stands, its kind, its payload -/
abbrev RecP := Nat × Nat × List Nat
/-- what a frame at i, with a payload of n bytes, gives -/
def recAt (b : List Nat) (i k n : Nat) : List RecP :=
  if Sha.digest ((b.drop (i + 44)).take n) = (b.drop (i + 12)).take 32 then [(i, k, (b.drop (i + 44)).take n)] else []
/-- all records from i on, and where the rest is torn -/
def scan (b : List Nat) (i : Nat) : List RecP × Nat :=
  match hf : find b i with
  | none => ([], i)
  | some j =>
    match hd (b.drop j) with
    | none => ([], i)
    | some (k, n) => if b.length < j + 44 + n then ([], j) else (recAt b j k n ++ (scan b (j + 44 + n)).1, (scan b (j + 44 + n)).2)
termination_by b.length - i
decreasing_by all_goals (have := find_spec hf; omega)

theorem scan_none {b : List Nat} {i : Nat} (h : find b i = none) : scan b i = ([], i) := by
  rw [scan]; split
  · rfl
  · rename_i j hj; rw [h] at hj; cases hj
theorem scan_some {b : List Nat} {i j k n : Nat} (h : find b i = some j) (hh : hd (b.drop j) = some (k, n)) :
    scan b i = if b.length < j + 44 + n then ([], j) else (recAt b j k n ++ (scan b (j + 44 + n)).1, (scan b (j + 44 + n)).2) := by
  rw [scan]; split
  · rename_i hj; rw [h] at hj; cases hj
  · rename_i j' hj
    rw [h] at hj
    cases hj
    rw [hh]
theorem scan_same {b : List Nat} {i j : Nat} (h : find b i = some j) : scan b i = scan b j := by
  obtain ⟨_, _, k, n, hh⟩ := find_spec h
  rw [scan_some h hh, scan_some (find_here hh) hh]
theorem scan_here {b : List Nat} {i k n : Nat} (hh : hd (b.drop i) = some (k, n)) :
    scan b i = if b.length < i + 44 + n then ([], i) else (recAt b i k n ++ (scan b (i + 44 + n)).1, (scan b (i + 44 + n)).2) := scan_some (find_here hh) hh
end Go.Proofs.Ytinndlofnpkfhaa
