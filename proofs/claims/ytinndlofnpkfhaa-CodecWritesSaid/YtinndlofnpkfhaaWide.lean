/-
  Words of 32 bits in numbers of 64 bits.
-/
import Derived.Test.YtinndlofnpkfhaaRot
import Derived.Test.YtinndlofnpkfhaaShaL
import Derived.Test.YtinndlofnpkfhaaNum
namespace Go.Proofs.Ytinndlofnpkfhaa
open Go.RowKit

theorem xor3w (a b c q : Nat) (ha : a < 4294967296) (hb : b < 4294967296) (hc : c < 4294967296) (z : Int) (hz : z = (c : Int)) (hq : q = a ^^^ b ^^^ c) :
    ∃ m : Nat, bits .xor .u64 (a : Int) (b : Int) = (m : Int) ∧ bits .xor .u64 (m : Int) z = (q : Int) := by
  subst hz hq
  exact ⟨a ^^^ b, u64_xor_nat a b (by omega) (by omega), u64_xor_nat _ _ (Nat.lt_of_lt_of_le (Sha.xor_lt ha hb) (by decide)) (by omega)⟩
theorem mask (a : Nat) (h : a < 18446744073709551616) : bits .and .u64 (a : Int) 4294967295 = ((a % 4294967296 : Nat) : Int) := by
  have := u64_and_nat a 4294967295 h (by decide)
  rw [show a &&& 4294967295 = a % 4294967296 from Nat.and_two_pow_sub_one_eq_mod a 32] at this
  exact this
theorem ch_or (e f g : Nat) (he : e < 4294967296) : (e &&& f) ||| ((4294967295 - e) &&& g) = Sha.ch e f g := by
  unfold Sha.ch
  rw [← Sha.flip_eq he]
  apply Nat.eq_of_testBit_eq
  intro i
  simp only [Nat.testBit_or, Nat.testBit_xor, Nat.testBit_and]
  by_cases hi : i < 32
  · have : (4294967295 : Nat).testBit i = true := by rw [show (4294967295 : Nat) = 2 ^ 32 - 1 from rfl, Nat.testBit_two_pow_sub_one]; simp [hi]
    rw [this]
    cases e.testBit i <;> cases f.testBit i <;> cases g.testBit i <;> rfl
  · have h1 : (4294967295 : Nat).testBit i = false := by rw [show (4294967295 : Nat) = 2 ^ 32 - 1 from rfl, Nat.testBit_two_pow_sub_one]; simp [hi]
    have h2 : e.testBit i = false := Nat.testBit_lt_two_pow (Nat.lt_of_lt_of_le (show e < 2 ^ 32 from he) (Nat.pow_le_pow_right (by decide) (by omega)))
    rw [h1, h2]
    cases f.testBit i <;> cases g.testBit i <;> rfl
theorem maj_or (a b c : Nat) : ((a &&& b) ||| (a &&& c)) ||| (b &&& c) = Sha.maj a b c := by
  unfold Sha.maj
  apply Nat.eq_of_testBit_eq
  intro i
  simp only [Nat.testBit_or, Nat.testBit_xor, Nat.testBit_and]
  cases a.testBit i <;> cases b.testBit i <;> cases c.testBit i <;> rfl
theorem or_lt {a b : Nat} (h : a < 4294967296) (k : b < 4294967296) : a ||| b < 4294967296 := Nat.or_lt_two_pow (n := 32) h k
theorem num4 (x0 x1 x2 x3 : Nat) : num [x0, x1, x2, x3] = x0 * 16777216 + x1 * 65536 + x2 * 256 + x3 := by
  simp [num]; omega
/-- the four bytes of a word of a block -/
theorem num_be {b : List Nat} {i : Nat} (h : 4 * i + 4 ≤ b.length) : num ((b.drop (4 * i)).take 4) = Sha.be b i := by
  have e : (b.drop (4 * i)).take 4 = [b.getD (4 * i) 0, b.getD (4 * i + 1) 0, b.getD (4 * i + 2) 0, b.getD (4 * i + 3) 0] := by
    apply List.ext_getElem
    · rw [List.length_take, List.length_drop]; simp; omega
    · intro j h1 h2
      have hj : j < 4 := by simpa using h2
      have g : ∀ t (ht : t < 4), b.getD (4 * i + t) 0 = b[4 * i + t]'(by omega) := fun t ht => by
        rw [List.getD_eq_getElem?_getD, List.getElem?_eq_getElem (by omega)]; rfl
      rw [List.getElem_take, List.getElem_drop]
      rcases (by omega : j = 0 ∨ j = 1 ∨ j = 2 ∨ j = 3) with rfl | rfl | rfl | rfl
      · exact (g 0 (by decide)).symm
      · exact (g 1 (by decide)).symm
      · exact (g 2 (by decide)).symm
      · exact (g 3 (by decide)).symm
  rw [e, num4]
  rfl
end Go.Proofs.Ytinndlofnpkfhaa
