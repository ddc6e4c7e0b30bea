/-
  Plain law: how flags are changed, on their lowest five bits.
-/
import Derived.Laws.BitsAllLaws
import Derived.Laws.BitsLemmas
namespace Go.Proofs.Ytigkjjbdbficnaa

/-- The lowest five bits. -/
def lo (a : Int) : Nat := (a % 32).toNat
theorem lo_lt (a : Int) : lo a < 32 := by unfold lo; omega
theorem lo_cast (n : Nat) (h : n < 32) : lo (n : Int) = n := by unfold lo; omega

theorem ofInt_nat (a : Int) : (BitVec.ofInt 64 a).toNat = (a % 18446744073709551616).toNat := by rw [BitVec.toNat_ofInt]; rfl
theorem and31 (a : Int) : bits .and .i64 a 31 = ((lo a : Nat) : Int) := by
  show IntKind.i64.wrap ((BitVec.ofInt 64 a &&& BitVec.ofInt 64 31).toNat : Int) = _
  have e : (BitVec.ofInt 64 a &&& BitVec.ofInt 64 31).toNat = lo a := by
    rw [BitVec.toNat_and, ofInt_nat, ofInt_nat]
    rw [show ((31 : Int) % 18446744073709551616).toNat = 2 ^ 5 - 1 from rfl, Nat.and_two_pow_sub_one_eq_mod]
    unfold lo
    omega
  rw [e, IntKind.wrap_i64]
  have := lo_lt a
  omega
theorem wrap_lo (x : BitVec 64) : lo (IntKind.i64.wrap (x.toNat : Int)) = x.toNat % 32 := by
  rw [IntKind.wrap_i64]
  unfold lo
  have := x.isLt
  omega
theorem lo_nat (a : Int) : (BitVec.ofInt 64 a).toNat % 32 = lo a := by rw [ofInt_nat]; unfold lo; omega
theorem lo_or (a b : Int) : lo (bits .or .i64 a b) = lo a ||| lo b := by
  show lo (IntKind.i64.wrap ((BitVec.ofInt 64 a ||| BitVec.ofInt 64 b).toNat : Int)) = _
  rw [wrap_lo, BitVec.toNat_or, ← lo_nat a, ← lo_nat b]
  exact Nat.or_mod_two_pow (n := 5)
theorem lo_andNot (a b : Int) : lo (bits .andNot .i64 a b) = lo a &&& (31 - lo b) := by
  show lo (IntKind.i64.wrap ((BitVec.ofInt 64 a &&& ~~~ BitVec.ofInt 64 b).toNat : Int)) = _
  rw [wrap_lo, BitVec.toNat_and, ← lo_nat a, ← lo_nat b, BitVec.toNat_not]
  have h1 : ∀ x y : Nat, (x &&& y) % 32 = x % 32 &&& y % 32 := fun x y => Nat.and_mod_two_pow (n := 5)
  rw [h1]
  congr 1
  have := (BitVec.ofInt 64 b).isLt
  omega

/-- What 'Change' answers, of the lowest five bits. -/
def chg (x y : Nat) (how : Int) : Nat := if how = 0 then y else if how = 1 then x ||| y else if how = 2 then x &&& (31 - y) else x
/-- One bit of what the reference answers. -/
def oneB (a c : Bool) (how : Int) : Bool := (decide (how = 0) && c) || (decide (how = 1) && (a || c)) || (decide (how = 2) && a && !c) || ((decide (how < 0) || decide (2 < how)) && a)
def bitAt (x k : Nat) : Bool := decide (x / 2 ^ k % 2 = 1)
/-- The reference's sum, k rounds. -/
def sumTo (x y : Nat) (how : Int) : Nat → Nat
  | 0 => 0
  | k + 1 => if oneB (bitAt x k) (bitAt y k) how then sumTo x y how k + 2 ^ k else sumTo x y how k
theorem chg_lt (x y : Nat) (how : Int) (hx : x < 32) (hy : y < 32) : chg x y how < 32 := by
  unfold chg
  split
  · exact hy
  · split
    · exact Nat.or_lt_two_pow (n := 5) hx hy
    · split
      · exact Nat.and_lt_two_pow x (n := 5) (by omega)
      · exact hx
theorem chg_chg (x y : Nat) (how : Int) (hx : x < 32) (hy : y < 32) : chg (chg x y how) y how = chg x y how := by
  have H0 : ∀ x < 32, ∀ y < 32, (x ||| y) ||| y = x ||| y := by decide +kernel
  have H1 : ∀ x < 32, ∀ y < 32, (x &&& (31 - y)) &&& (31 - y) = x &&& (31 - y) := by decide +kernel
  unfold chg
  by_cases h0 : how = 0
  · simp [h0]
  · by_cases h1 : how = 1
    · subst h1; simpa using H0 x hx y hy
    · by_cases h2 : how = 2
      · subst h2; simpa using H1 x hx y hy
      · simp [h0, h1, h2]
theorem sum_chg (x y : Nat) (how : Int) (hx : x < 32) (hy : y < 32) : sumTo x y how 5 = chg x y how := by
  have H0 : ∀ x < 32, ∀ y < 32, sumTo x y 0 5 = y := by decide +kernel
  have H1 : ∀ x < 32, ∀ y < 32, sumTo x y 1 5 = x ||| y := by decide +kernel
  have H2 : ∀ x < 32, ∀ y < 32, sumTo x y 2 5 = x &&& (31 - y) := by decide +kernel
  have H3 : ∀ x < 32, ∀ y < 32, sumTo x y 3 5 = x := by decide +kernel
  unfold chg
  by_cases h0 : how = 0
  · subst h0; simpa using H0 x hx y hy
  · by_cases h1 : how = 1
    · subst h1; simpa using H1 x hx y hy
    · by_cases h2 : how = 2
      · subst h2; simpa using H2 x hx y hy
      · rw [if_neg h0, if_neg h1, if_neg h2]
        have e : ∀ a c, oneB a c how = oneB a c 3 := by
          intro a c
          have : (how < 0) ∨ (2 < how) := by omega
          unfold oneB
          rw [decide_eq_false h0, decide_eq_false h1, decide_eq_false h2]
          rcases this with h | h
          · simp [h]
          · simp [h]
        have e2 : ∀ k, sumTo x y how k = sumTo x y 3 k := by
          intro k
          induction k with
          | zero => rfl
          | succ k ih => rw [sumTo, sumTo, e, ih]
        exact (e2 5).trans (H3 x hx y hy)
theorem sum_lt (x y : Nat) (how : Int) (k : Nat) : sumTo x y how k < 2 ^ k := by
  induction k with
  | zero => simp [sumTo]
  | succ k ih =>
    rw [sumTo]
    split <;> rw [Nat.pow_succ] <;> omega

theorem and1_ (a : Int) : bits .and .i64 a 1 = a % 2 := by
  show IntKind.i64.wrap ((BitVec.ofInt 64 a &&& BitVec.ofInt 64 1).toNat : Int) = _
  have e : (BitVec.ofInt 64 a &&& BitVec.ofInt 64 1).toNat = (a % 2).toNat := by
    rw [BitVec.toNat_and, ofInt_nat, ofInt_nat]
    rw [show ((1 : Int) % 18446744073709551616).toNat = 2 ^ 1 - 1 from rfl, Nat.and_two_pow_sub_one_eq_mod]
    omega
  rw [e, IntKind.wrap_i64]
  omega
theorem bit_lo (a : Int) (k : Nat) (hk : k < 5) : bits .and .i64 (a / 2 ^ k) 1 = ((lo a / 2 ^ k % 2 : Nat) : Int) := by
  rw [and1_]
  unfold lo
  have : k = 0 ∨ k = 1 ∨ k = 2 ∨ k = 3 ∨ k = 4 := by omega
  rcases this with rfl | rfl | rfl | rfl | rfl <;> simp only [Nat.reducePow, Int.reducePow] <;> omega
theorem oneB_0 (a c : Bool) : oneB a c 0 = c := by cases a <;> cases c <;> rfl
theorem oneB_1 (a c : Bool) : oneB a c 1 = (a || c) := by cases a <;> cases c <;> rfl
theorem oneB_2 (a c : Bool) : oneB a c 2 = (a && !c) := by cases a <;> cases c <;> rfl
theorem oneB_neg {how : Int} (h : how < 0) (a c : Bool) : oneB a c how = a := by
  unfold oneB
  rw [decide_eq_false (show ¬ how = 0 by omega), decide_eq_false (show ¬ how = 1 by omega), decide_eq_false (show ¬ how = 2 by omega), decide_eq_true h]
  cases a <;> cases c <;> rfl
theorem oneB_big {how : Int} (h : 2 < how) (a c : Bool) : oneB a c how = a := by
  unfold oneB
  rw [decide_eq_false (show ¬ how = 0 by omega), decide_eq_false (show ¬ how = 1 by omega), decide_eq_false (show ¬ how = 2 by omega), decide_eq_true h]
  cases a <;> cases c <;> simp
/-- The two bits of a round, and what the round does. -/
theorem round_cases (x y k : Nat) (how : Int) : ∃ p q : Nat, x / 2 ^ k % 2 = p ∧ y / 2 ^ k % 2 = q ∧ (p = 0 ∨ p = 1) ∧ (q = 0 ∨ q = 1) ∧
    sumTo x y how (k + 1) = if oneB (decide (p = 1)) (decide (q = 1)) how then sumTo x y how k + 2 ^ k else sumTo x y how k :=
  ⟨_, _, rfl, rfl, by omega, by omega, rfl⟩
end Go.Proofs.Ytigkjjbdbficnaa
