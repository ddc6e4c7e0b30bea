/-
  Plain law: numbers of bytes, the greatest first.
-/
import Derived.Laws.BitsAllLaws
import Derived.Laws.BitsLemmas
namespace Go.Proofs.Ytinndlofnpkfhaa

def num (l : List Nat) : Nat := l.foldl (fun v c => v * 256 + c) 0
theorem num_snoc (l : List Nat) (x : Nat) : num (l ++ [x]) = num l * 256 + x := by simp [num]
theorem num_lt (l : List Nat) (h : ∀ x ∈ l, x < 256) : num l < 256 ^ l.length := by
  suffices H : ∀ (l : List Nat) (v n : Nat), (∀ x ∈ l, x < 256) → v < 256 ^ n → l.foldl (fun v c => v * 256 + c) v < 256 ^ (n + l.length) by
    have := H l 0 0 h (by simp)
    simpa [num] using this
  intro l
  induction l with
  | nil => intro v n _ hv; simpa using hv
  | cons x l ih =>
    intro v n hx hv
    have h1 := hx x (by simp)
    have := ih (v * 256 + x) (n + 1) (fun y hy => hx y (by simp [hy])) (by rw [Nat.pow_succ]; omega)
    simp only [List.foldl_cons, List.length_cons]
    rw [show n + (l.length + 1) = n + 1 + l.length from by omega]
    exact this
theorem num_lt_of {l : List Nat} (h : ∀ x ∈ l, x < 256) {n : Nat} (hn : l.length ≤ n) : num l < 256 ^ n :=
  Nat.lt_of_lt_of_le (num_lt l h) (Nat.pow_le_pow_right (by decide) hn)

theorem i64_or_nat' (a b : Nat) (ha : a < 9223372036854775808) (hb : b < 9223372036854775808) : bits .or .i64 (a : Int) (b : Int) = ((a ||| b : Nat) : Int) := by
  have e : ∀ a : Nat, a < 9223372036854775808 → (BitVec.ofInt 64 (a : Int)).toNat = a := by
    intro a ha
    rw [BitVec.ofInt_natCast, BitVec.toNat_ofNat]; exact Nat.mod_eq_of_lt (by omega)
  have hx : a ||| b < 2 ^ 63 := Nat.or_lt_two_pow (by omega) (by omega)
  show IntKind.i64.wrap ((BitVec.ofInt 64 (a : Int) ||| BitVec.ofInt 64 (b : Int)).toNat : Int) = _
  rw [BitVec.toNat_or, e a ha, e b hb, IntKind.wrap_i64]
  omega
theorem shl_or (v x : Nat) (hv : v < 281474976710656) (hx : x < 256) : bits .or .i64 ((v : Int) * 256) (x : Int) = ((v * 256 + x : Nat) : Int) := by
  have := i64_or_nat' (v * 256) x (by omega) (by omega)
  rw [nat_join 8 (v * 256) x (by omega) (by omega)] at this
  rw [← this]
  simp
end Go.Proofs.Ytinndlofnpkfhaa
