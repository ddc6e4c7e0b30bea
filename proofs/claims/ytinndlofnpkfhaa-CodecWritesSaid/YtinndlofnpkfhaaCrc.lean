/-
  Plain law: the CRC of the program and of the reference, as functions on lists of numbers; that they agree; that one other byte is another CRC. Nothing of the program is imported.
-/
namespace Go.Proofs.Ytinndlofnpkfhaa
namespace Crc
def turn : Nat := 0xedb88320
def half (c : Nat) : Nat := if c % 2 = 1 then (c / 2) ^^^ turn else c / 2
def halves : Nat → Nat → Nat
  | 0, c => c
  | k + 1, c => half (halves k c)
def byte (c x : Nat) : Nat := halves 8 (c ^^^ x)
def all (l : List Nat) (c : Nat) : Nat := l.foldl byte c
def crc (l : List Nat) : Nat := all l 0xffffffff ^^^ 0xffffffff
-- the reference
def rhalf (x c k : Nat) : Nat := if (c &&& 1) ^^^ ((x >>> k) &&& 1) = 1 then (c / 2) ^^^ turn else c / 2
def rhalves (x : Nat) : Nat → Nat → Nat
  | 0, c => c
  | k + 1, c => rhalf x (rhalves x k c) k
theorem xor_div2 (a b : Nat) : (a ^^^ b) / 2 = a / 2 ^^^ b / 2 := by
  apply Nat.eq_of_testBit_eq; intro i; simp [Nat.testBit_div_two]
theorem half_eq (c x k : Nat) : half (c ^^^ (x >>> k)) = rhalf x c k ^^^ (x >>> (k + 1)) := by
  unfold half rhalf
  have e : (c ^^^ (x >>> k)) % 2 = (c &&& 1) ^^^ ((x >>> k) &&& 1) := by
    rw [← Nat.and_one_is_mod]
    apply Nat.eq_of_testBit_eq; intro i
    simp only [Nat.testBit_xor, Nat.testBit_and]
    cases c.testBit i <;> cases (x >>> k).testBit i <;> cases (Nat.testBit 1 i) <;> rfl
  rw [e, xor_div2]
  have : x >>> k / 2 = x >>> (k+1) := by simp [Nat.shiftRight_succ]
  rw [this]
  split
  · rw [Nat.xor_assoc, Nat.xor_comm (x >>> (k+1)), ← Nat.xor_assoc]
  · rfl
theorem halves_eq (x c : Nat) (k : Nat) : halves k (c ^^^ x) = rhalves x k c ^^^ (x >>> k) := by
  induction k with
  | zero => simp [halves, rhalves]
  | succ k ih => rw [halves, ih, half_eq, rhalves]
theorem byte_eq (c x : Nat) (hx : x < 256) : byte c x = rhalves x 8 c := by
  unfold byte; rw [halves_eq, Nat.shiftRight_eq_div_pow, Nat.div_eq_of_lt (by simpa using hx), Nat.xor_zero]
-- bounds
theorem half_lt (c : Nat) (h : c < 4294967296) : half c < 4294967296 := by
  unfold half; split
  · exact Nat.xor_lt_two_pow (n := 32) (by omega) (by decide)
  · omega
theorem halves_lt (k c : Nat) (h : c < 4294967296) : halves k c < 4294967296 := by
  induction k with
  | zero => exact h
  | succ k ih => exact half_lt _ ih
theorem byte_lt (c x : Nat) (h : c < 4294967296) (hx : x < 256) : byte c x < 4294967296 :=
  halves_lt _ _ (Nat.xor_lt_two_pow (n := 32) (by omega) (by omega))
theorem all_lt (l : List Nat) : ∀ c, c < 4294967296 → (∀ x ∈ l, x < 256) → all l c < 4294967296 := by
  induction l with
  | nil => intro c h _; exact h
  | cons x l ih => intro c h hx; exact ih _ (byte_lt c x h (hx x (by simp))) (fun y hy => hx y (by simp [hy]))
theorem all_snoc (l : List Nat) (x c : Nat) : all (l ++ [x]) c = byte (all l c) x := by simp [all]
theorem crc_lt (l : List Nat) (hx : ∀ x ∈ l, x < 256) : crc l < 4294967296 :=
  Nat.xor_lt_two_pow (n := 32) (all_lt l _ (by decide) hx) (by decide)
theorem rhalves_lt (x k c : Nat) (h : c < 4294967296) : rhalves x k c < 4294967296 := by
  induction k with
  | zero => exact h
  | succ k ih => 
    unfold rhalves rhalf; split
    · exact Nat.xor_lt_two_pow (n := 32) (by omega) (by decide)
    · omega
-- one other bit
theorem half_inj (a b : Nat) (ha : a < 4294967296) (hb : b < 4294967296) (h : half a = half b) : a = b := by
  have key : ∀ c, c < 4294967296 → (half c).testBit 31 = decide (c % 2 = 1) := by
    intro c hc
    unfold half
    have hs : (c / 2).testBit 31 = false := Nat.testBit_lt_two_pow (by omega)
    have ht : turn.testBit 31 = true := by decide
    split
    · rename_i h1; rw [Nat.testBit_xor, hs, ht]; simp [h1]
    · rename_i h1; rw [hs]; simp [h1]
  have k1 := key a ha
  have k2 := key b hb
  rw [h, k2] at k1
  have hp : (a % 2 = 1) = (b % 2 = 1) := by
    have := congrArg (· = true) k1; simp only [decide_eq_true_eq] at this; exact this.symm
  unfold half at h
  have hd : a / 2 = b / 2 := by
    by_cases h1 : b % 2 = 1
    · rw [if_pos h1, if_pos (by rw [hp]; exact h1)] at h
      have := congrArg (· ^^^ turn) h
      simpa [Nat.xor_assoc] using this
    · rw [if_neg h1, if_neg (by rw [hp]; exact h1)] at h; exact h
  have : (a % 2 = 1) ↔ (b % 2 = 1) := by rw [hp]
  omega
theorem halves_inj (k a b : Nat) (ha : a < 4294967296) (hb : b < 4294967296) (h : halves k a = halves k b) : a = b := by
  induction k with
  | zero => exact h
  | succ k ih => exact ih (half_inj _ _ (halves_lt _ _ ha) (halves_lt _ _ hb) h)
theorem all_inj (l : List Nat) : ∀ a b, a < 4294967296 → b < 4294967296 → (∀ x ∈ l, x < 256) → all l a = all l b → a = b := by
  induction l with
  | nil => intro a b _ _ _ h; exact h
  | cons x l ih =>
    intro a b ha hb hx h
    have hxx := hx x (by simp)
    have e := ih (byte a x) (byte b x) (byte_lt _ _ ha hxx) (byte_lt _ _ hb hxx) (fun y hy => hx y (by simp [hy])) h
    have e2 := halves_inj 8 _ _ (Nat.xor_lt_two_pow (n := 32) (by omega) (by omega)) (Nat.xor_lt_two_pow (n := 32) (by omega) (by omega)) e
    have := congrArg (· ^^^ x) e2
    simpa [Nat.xor_assoc] using this
theorem crc_other (p s : List Nat) (x y : Nat) (hp : ∀ z ∈ p, z < 256) (hs : ∀ z ∈ s, z < 256) (hx : x < 256) (hy : y < 256) (hne : x ≠ y) :
    crc (p ++ x :: s) ≠ crc (p ++ y :: s) := by
  intro h
  unfold crc at h
  have h1 : all (p ++ x :: s) 0xffffffff = all (p ++ y :: s) 0xffffffff := by
    have := congrArg (· ^^^ 0xffffffff) h
    simpa [Nat.xor_assoc] using this
  simp only [all, List.foldl_append, List.foldl_cons] at h1
  have hc : p.foldl byte 0xffffffff < 4294967296 := all_lt p _ (by decide) hp
  have e := all_inj s _ _ (byte_lt _ _ hc hx) (byte_lt _ _ hc hy) hs h1
  have e2 := halves_inj 8 _ _ (Nat.xor_lt_two_pow (n := 32) (by omega) (by omega)) (Nat.xor_lt_two_pow (n := 32) (by omega) (by omega)) e
  have := congrArg (p.foldl byte 0xffffffff ^^^ ·) e2
  simp only [← Nat.xor_assoc, Nat.xor_self, Nat.zero_xor] at this
  exact hne this
theorem known : crc [49, 50, 51, 52, 53, 54, 55, 56, 57] = 0xcbf43926 := by decide +kernel
end Crc
end Go.Proofs.Ytinndlofnpkfhaa
