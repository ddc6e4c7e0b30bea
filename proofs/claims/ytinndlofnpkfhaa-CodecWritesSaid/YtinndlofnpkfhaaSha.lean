/-
  SHA-256 in plain Lean, on lists of numbers.
-/
import Derived.Test.YtinndlofnpkfhaaBe
namespace Go.Proofs.Ytinndlofnpkfhaa.Sha
/-- right rotation of 32 bits -/
def ror (x n : Nat) : Nat := x / 2 ^ n ||| x * 2 ^ (32 - n) % 4294967296
theorem ror_lt {x n : Nat} (h : x < 4294967296) : ror x n < 4294967296 :=
  Nat.or_lt_two_pow (n := 32) (Nat.lt_of_le_of_lt (Nat.div_le_self _ _) h) (Nat.mod_lt _ (by decide))
theorem ror_or {x n : Nat} (h : x < 4294967296) : (x / 2 ^ n ||| x * 2 ^ (32 - n)) % 4294967296 = ror x n := by
  have := Nat.or_mod_two_pow (a := x / 2 ^ n) (b := x * 2 ^ (32 - n)) (n := 32)
  rw [show (4294967296 : Nat) = 2 ^ 32 from rfl, this, Nat.mod_eq_of_lt (Nat.lt_of_le_of_lt (Nat.div_le_self _ _) h)]
  rfl
def K : List Nat := [
  0x428a2f98, 0x71374491, 0xb5c0fbcf, 0xe9b5dba5, 0x3956c25b, 0x59f111f1, 0x923f82a4, 0xab1c5ed5,
  0xd807aa98, 0x12835b01, 0x243185be, 0x550c7dc3, 0x72be5d74, 0x80deb1fe, 0x9bdc06a7, 0xc19bf174,
  0xe49b69c1, 0xefbe4786, 0x0fc19dc6, 0x240ca1cc, 0x2de92c6f, 0x4a7484aa, 0x5cb0a9dc, 0x76f988da,
  0x983e5152, 0xa831c66d, 0xb00327c8, 0xbf597fc7, 0xc6e00bf3, 0xd5a79147, 0x06ca6351, 0x14292967,
  0x27b70a85, 0x2e1b2138, 0x4d2c6dfc, 0x53380d13, 0x650a7354, 0x766a0abb, 0x81c2c92e, 0x92722c85,
  0xa2bfe8a1, 0xa81a664b, 0xc24b8b70, 0xc76c51a3, 0xd192e819, 0xd6990624, 0xf40e3585, 0x106aa070,
  0x19a4c116, 0x1e376c08, 0x2748774c, 0x34b0bcb5, 0x391c0cb3, 0x4ed8aa4a, 0x5b9cca4f, 0x682e6ff3,
  0x748f82ee, 0x78a5636f, 0x84c87814, 0x8cc70208, 0x90befffa, 0xa4506ceb, 0xbef9a3f7, 0xc67178f2]
def low (x : Nat) : Nat := ror x 7 ^^^ ror x 18 ^^^ x / 8
def high (y : Nat) : Nat := ror y 17 ^^^ ror y 19 ^^^ y / 1024
theorem xor_lt {a b : Nat} (h : a < 4294967296) (k : b < 4294967296) : a ^^^ b < 4294967296 := Nat.xor_lt_two_pow (n := 32) h k
theorem div_lt' {a n : Nat} (h : a < 4294967296) : a / n < 4294967296 := Nat.lt_of_le_of_lt (Nat.div_le_self _ _) h
theorem low_lt {x : Nat} (h : x < 4294967296) : low x < 4294967296 := xor_lt (xor_lt (ror_lt h) (ror_lt h)) (div_lt' h)
theorem high_lt {x : Nat} (h : x < 4294967296) : high x < 4294967296 := xor_lt (xor_lt (ror_lt h) (ror_lt h)) (div_lt' h)
/-- the next word of the schedule, of those before it -/
def nextW (w : List Nat) (i : Nat) : Nat := (w.getD (i - 16) 0 + low (w.getD (i - 15) 0) + w.getD (i - 7) 0 + high (w.getD (i - 2) 0)) % 4294967296
def be (b : List Nat) (i : Nat) : Nat := b.getD (4 * i) 0 * 16777216 + b.getD (4 * i + 1) 0 * 65536 + b.getD (4 * i + 2) 0 * 256 + b.getD (4 * i + 3) 0
theorem be_or {b : List Nat} {i x0 x1 x2 x3 : Nat} (h0 : b[4 * i]? = some x0) (h1 : b[4 * i + 1]? = some x1) (h2 : b[4 * i + 2]? = some x2) (h3 : b[4 * i + 3]? = some x3)
    (l1 : x1 < 256) (l2 : x2 < 256) (l3 : x3 < 256) : be b i = ((x0 * 16777216 ||| x1 * 65536) ||| x2 * 256) ||| x3 := by
  have g : ∀ {j x : Nat}, b[j]? = some x → b.getD j 0 = x := fun h => by rw [List.getD_eq_getElem?_getD, h]; rfl
  have o : ∀ (n x y : Nat), y < 2 ^ n → x * 2 ^ n ||| y = x * 2 ^ n + y := fun n x y hy => by
    rw [← Nat.shiftLeft_eq, Nat.shiftLeft_add_eq_or_of_lt hy]
  unfold be
  rw [g h0, g h1, g h2, g h3]
  have e1 := o 24 x0 (x1 * 65536) (by omega)
  have e2 := o 16 (x0 * 256 + x1) (x2 * 256) (by omega)
  have e3 := o 8 (x0 * 65536 + x1 * 256 + x2) x3 (by omega)
  rw [show x0 * 16777216 = x0 * 2 ^ 24 by omega, e1, show x0 * 2 ^ 24 + x1 * 65536 = (x0 * 256 + x1) * 2 ^ 16 by omega, e2, show (x0 * 256 + x1) * 2 ^ 16 + x2 * 256 = (x0 * 65536 + x1 * 256 + x2) * 2 ^ 8 by omega, e3]
def first (b : List Nat) : List Nat := (List.range 16).map (be b)
/-- words 0 .. n-1 of the schedule, n from 16 on -/
def more (w : List Nat) : Nat → List Nat
  | 0 => w
  | n + 1 => more w n ++ [nextW (more w n) (16 + n)]
def sched (b : List Nat) : List Nat := more (first b) 48
def s1 (e : Nat) : Nat := ror e 6 ^^^ ror e 11 ^^^ ror e 25
def s0 (a : Nat) : Nat := ror a 2 ^^^ ror a 13 ^^^ ror a 22
def ch (e f g : Nat) : Nat := (e &&& f) ^^^ ((4294967295 - e) &&& g)
theorem flip_eq {e : Nat} (h : e < 4294967296) : 4294967295 ^^^ e = 4294967295 - e := by
  apply Nat.eq_of_testBit_eq
  intro i
  rw [Nat.testBit_xor, show (4294967295 : Nat) - e = 2 ^ 32 - (e + 1) by omega, Nat.testBit_two_pow_sub_succ (by omega), show (4294967295 : Nat) = 2 ^ 32 - 1 from rfl, Nat.testBit_two_pow_sub_one]
  by_cases hi : i < 32
  · simp [hi]
  · have : e.testBit i = false := Nat.testBit_lt_two_pow (Nat.lt_of_lt_of_le (show e < 2 ^ 32 from h) (Nat.pow_le_pow_right (by decide) (by omega)))
    simp [hi, this]
def maj (a b c : Nat) : Nat := (a &&& b) ^^^ (a &&& c) ^^^ (b &&& c)
structure St where
  (a b c d e f g h : Nat)
def St.ok (s : St) : Prop := s.a < 4294967296 ∧ s.b < 4294967296 ∧ s.c < 4294967296 ∧ s.d < 4294967296 ∧ s.e < 4294967296 ∧ s.f < 4294967296 ∧ s.g < 4294967296 ∧ s.h < 4294967296
def St.list (s : St) : List Nat := [s.a, s.b, s.c, s.d, s.e, s.f, s.g, s.h]
def St.one (s : St) (k w : Nat) : Nat := (s.h + s1 s.e + ch s.e s.f s.g + k + w) % 4294967296
def St.two (s : St) : Nat := (s0 s.a + maj s.a s.b s.c) % 4294967296
def St.step (s : St) (k w : Nat) : St := ⟨(s.one k w + s.two) % 4294967296, s.a, s.b, s.c, (s.d + s.one k w) % 4294967296, s.e, s.f, s.g⟩
def rounds (w : List Nat) (s : St) : Nat → St
  | 0 => s
  | n + 1 => (rounds w s n).step (K.getD n 0) (w.getD n 0)
def St.add (s t : St) : St := ⟨(s.a + t.a) % 4294967296, (s.b + t.b) % 4294967296, (s.c + t.c) % 4294967296, (s.d + t.d) % 4294967296, (s.e + t.e) % 4294967296, (s.f + t.f) % 4294967296, (s.g + t.g) % 4294967296, (s.h + t.h) % 4294967296⟩
theorem add_getD (s t : St) (k : Nat) (h : k < 8) : (s.add t).list.getD k 0 = (s.list.getD k 0 + t.list.getD k 0) % 4294967296 := by
  match k, h with
  | 0, _ => rfl
  | 1, _ => rfl
  | 2, _ => rfl
  | 3, _ => rfl
  | 4, _ => rfl
  | 5, _ => rfl
  | 6, _ => rfl
  | 7, _ => rfl
def mix (h : St) (blk : List Nat) : St := (rounds (sched blk) h 64).add h
def iv : St := ⟨0x6a09e667, 0xbb67ae85, 0x3c6ef372, 0xa54ff53a, 0x510e527f, 0x9b05688c, 0x1f83d9ab, 0x5be0cd19⟩
/-- so many blocks of bytes -/
def blocks (l : List Nat) : Nat → St
  | 0 => iv
  | n + 1 => mix (blocks l n) ((l.drop (64 * n)).take 64)
def zeros (n : Nat) : Nat := (119 - n % 64) % 64
def padded (l : List Nat) : List Nat := l ++ 0x80 :: List.replicate (zeros l.length) 0 ++ beb (8 * l.length) 8
def word4 (v : Nat) : List Nat := [v / 16777216 % 256, v / 65536 % 256, v / 256 % 256, v % 256]
def digest (l : List Nat) : List Nat := (blocks (padded l) ((padded l).length / 64)).list.flatMap word4
end Go.Proofs.Ytinndlofnpkfhaa.Sha
