/-
  Plain law: numbers of bytes, the greatest first. Plain law: a number's bytes, the greatest first. SHA-256 in plain Lean, on lists of numbers. SHA-256 in plain Lean: the schedule's and the rounds' laws. Plain law: the CRC of the program and of the reference, as functions on lists of numbers; that they agree; that one other byte is another CRC. Nothing of the program is imported. Package frame in plain Lean: what a right head tells, where the next stands, all records of bytes. Plain law: pages as lists of bytes; which lists are pages; that one other bit, one byte more, or some less, is none.
-/
import Derived.Laws.BitsAllLaws
import Derived.Laws.BitsLemmas
set_option linter.unusedSimpArgs false
set_option linter.unusedVariables false
namespace Go.Proofs.YtlhaempecidohaaGreatDoor
def num (l : List Nat) : Nat := l.foldl (fun v c => v * 256 + c) 0
theorem num_snoc (l : List Nat) (x : Nat) : num (l ++ [x]) = num l * 256 + x := by simp [num]
theorem num_lt (l : List Nat) (h : ∀ x ∈ l, x < 256) : num l < 256 ^ l.length := by
  suffices H : ∀ (l : List Nat) (v n : Nat), (∀ x ∈ l, x < 256) → v < 256 ^ n → l.foldl (fun v c => v * 256 + c) v < 256 ^ (n + l.length) by
    have := H l 0 0 h (by simp)
    simpa [num] using this
  intro l
  induction l with
  | nil => intro v n _ hv; simpa using hv
  | cons x l ih =>
    intro v n hx hv
    have h1 := hx x (by simp)
    have := ih (v * 256 + x) (n + 1) (fun y hy => hx y (by simp [hy])) (by rw [Nat.pow_succ]; omega)
    simp only [List.foldl_cons, List.length_cons]
    rw [show n + (l.length + 1) = n + 1 + l.length from by omega]
    exact this
theorem num_lt_of {l : List Nat} (h : ∀ x ∈ l, x < 256) {n : Nat} (hn : l.length ≤ n) : num l < 256 ^ n :=
  Nat.lt_of_lt_of_le (num_lt l h) (Nat.pow_le_pow_right (by decide) hn)
theorem i64_or_nat' (a b : Nat) (ha : a < 9223372036854775808) (hb : b < 9223372036854775808) : bits .or .i64 (a : Int) (b : Int) = ((a ||| b : Nat) : Int) := by
  have e : ∀ a : Nat, a < 9223372036854775808 → (BitVec.ofInt 64 (a : Int)).toNat = a := by
    intro a ha
    rw [BitVec.ofInt_natCast, BitVec.toNat_ofNat]; exact Nat.mod_eq_of_lt (by omega)
  have hx : a ||| b < 2 ^ 63 := Nat.or_lt_two_pow (by omega) (by omega)
  show IntKind.i64.wrap ((BitVec.ofInt 64 (a : Int) ||| BitVec.ofInt 64 (b : Int)).toNat : Int) = _
  rw [BitVec.toNat_or, e a ha, e b hb, IntKind.wrap_i64]
  omega
theorem shl_or (v x : Nat) (hv : v < 281474976710656) (hx : x < 256) : bits .or .i64 ((v : Int) * 256) (x : Int) = ((v * 256 + x : Nat) : Int) := by
  have := i64_or_nat' (v * 256) x (by omega) (by omega)
  rw [nat_join 8 (v * 256) x (by omega) (by omega)] at this
  rw [← this]
  simp
end Go.Proofs.YtlhaempecidohaaGreatDoor
namespace Go.Proofs.YtlhaempecidohaaGreatDoor
def bebTo (v n j : Nat) : List Nat := (List.range j).map fun t => v / 256 ^ (n - 1 - t) % 256
def beb (v n : Nat) : List Nat := bebTo v n n
theorem bebTo_succ (v n j : Nat) : bebTo v n (j + 1) = bebTo v n j ++ [v / 256 ^ (n - 1 - j) % 256] := by simp [bebTo, List.range_succ]
theorem bebTo_length (v n j : Nat) : (bebTo v n j).length = j := by simp [bebTo]
theorem beb_length (v n : Nat) : (beb v n).length = n := bebTo_length v n n
theorem beb_lt (v n : Nat) : ∀ x ∈ beb v n, x < 256 := by
  intro x hx
  simp only [beb, bebTo, List.mem_map] at hx
  obtain ⟨t, _, rfl⟩ := hx
  exact Nat.mod_lt _ (by decide)
/-- With one byte more ahead. -/
theorem bebTo_cons (v n : Nat) : beb v (n + 1) = (v / 256 ^ n % 256) :: beb v n := by
  unfold beb bebTo
  rw [List.range_succ_eq_map, List.map_cons, List.map_map]
  congr 1
  · apply List.map_congr_left
    intro t ht
    simp only [Function.comp, Nat.succ_eq_add_one]
    congr 3
    omega
theorem num_cons (x : Nat) (l : List Nat) : num (x :: l) = x * 256 ^ l.length + num l := by
  have H : ∀ (l : List Nat) (v : Nat), l.foldl (fun v c => v * 256 + c) v = v * 256 ^ l.length + l.foldl (fun v c => v * 256 + c) 0 := by
    intro l
    induction l with
    | nil => intro v; simp
    | cons y l ih =>
      intro v
      simp only [List.foldl_cons, List.length_cons]
      rw [ih (v * 256 + y), ih (0 * 256 + y), Nat.pow_succ, Nat.add_mul, Nat.zero_mul, Nat.zero_add]
      have e : v * 256 * 256 ^ l.length = v * (256 ^ l.length * 256) := by rw [Nat.mul_assoc, Nat.mul_comm 256]
      rw [e]
      omega
  have := H l x
  simpa [num] using this
theorem num_beb (n v : Nat) (h : v < 256 ^ n) : num (beb v n) = v := by
  have key : ∀ n, num (beb v n) = v % 256 ^ n := by
    intro n
    induction n with
    | zero => simp [beb, bebTo, num, Nat.mod_one]
    | succ n ih =>
      rw [bebTo_cons, num_cons, beb_length, ih]
      rw [Nat.pow_succ, Nat.mod_mul, Nat.mul_comm, Nat.add_comm]
  rw [key, Nat.mod_eq_of_lt h]
end Go.Proofs.YtlhaempecidohaaGreatDoor
namespace Go.Proofs.YtlhaempecidohaaGreatDoor.Sha
/-- right rotation of 32 bits -/
def ror (x n : Nat) : Nat := x / 2 ^ n ||| x * 2 ^ (32 - n) % 4294967296
theorem ror_lt {x n : Nat} (h : x < 4294967296) : ror x n < 4294967296 :=
  Nat.or_lt_two_pow (n := 32) (Nat.lt_of_le_of_lt (Nat.div_le_self _ _) h) (Nat.mod_lt _ (by decide))
theorem ror_or {x n : Nat} (h : x < 4294967296) : (x / 2 ^ n ||| x * 2 ^ (32 - n)) % 4294967296 = ror x n := by
  have := Nat.or_mod_two_pow (a := x / 2 ^ n) (b := x * 2 ^ (32 - n)) (n := 32)
  rw [show (4294967296 : Nat) = 2 ^ 32 from rfl, this, Nat.mod_eq_of_lt (Nat.lt_of_le_of_lt (Nat.div_le_self _ _) h)]
  rfl
def K : List Nat := [
  0x428a2f98, 0x71374491, 0xb5c0fbcf, 0xe9b5dba5, 0x3956c25b, 0x59f111f1, 0x923f82a4, 0xab1c5ed5,
  0xd807aa98, 0x12835b01, 0x243185be, 0x550c7dc3, 0x72be5d74, 0x80deb1fe, 0x9bdc06a7, 0xc19bf174,
  0xe49b69c1, 0xefbe4786, 0x0fc19dc6, 0x240ca1cc, 0x2de92c6f, 0x4a7484aa, 0x5cb0a9dc, 0x76f988da,
  0x983e5152, 0xa831c66d, 0xb00327c8, 0xbf597fc7, 0xc6e00bf3, 0xd5a79147, 0x06ca6351, 0x14292967,
  0x27b70a85, 0x2e1b2138, 0x4d2c6dfc, 0x53380d13, 0x650a7354, 0x766a0abb, 0x81c2c92e, 0x92722c85,
  0xa2bfe8a1, 0xa81a664b, 0xc24b8b70, 0xc76c51a3, 0xd192e819, 0xd6990624, 0xf40e3585, 0x106aa070,
  0x19a4c116, 0x1e376c08, 0x2748774c, 0x34b0bcb5, 0x391c0cb3, 0x4ed8aa4a, 0x5b9cca4f, 0x682e6ff3,
  0x748f82ee, 0x78a5636f, 0x84c87814, 0x8cc70208, 0x90befffa, 0xa4506ceb, 0xbef9a3f7, 0xc67178f2]
def low (x : Nat) : Nat := ror x 7 ^^^ ror x 18 ^^^ x / 8
def high (y : Nat) : Nat := ror y 17 ^^^ ror y 19 ^^^ y / 1024
theorem xor_lt {a b : Nat} (h : a < 4294967296) (k : b < 4294967296) : a ^^^ b < 4294967296 := Nat.xor_lt_two_pow (n := 32) h k
theorem div_lt' {a n : Nat} (h : a < 4294967296) : a / n < 4294967296 := Nat.lt_of_le_of_lt (Nat.div_le_self _ _) h
theorem low_lt {x : Nat} (h : x < 4294967296) : low x < 4294967296 := xor_lt (xor_lt (ror_lt h) (ror_lt h)) (div_lt' h)
theorem high_lt {x : Nat} (h : x < 4294967296) : high x < 4294967296 := xor_lt (xor_lt (ror_lt h) (ror_lt h)) (div_lt' h)
/-- the next word of the schedule, of those before it -/
def nextW (w : List Nat) (i : Nat) : Nat := (w.getD (i - 16) 0 + low (w.getD (i - 15) 0) + w.getD (i - 7) 0 + high (w.getD (i - 2) 0)) % 4294967296
def be (b : List Nat) (i : Nat) : Nat := b.getD (4 * i) 0 * 16777216 + b.getD (4 * i + 1) 0 * 65536 + b.getD (4 * i + 2) 0 * 256 + b.getD (4 * i + 3) 0
theorem be_or {b : List Nat} {i x0 x1 x2 x3 : Nat} (h0 : b[4 * i]? = some x0) (h1 : b[4 * i + 1]? = some x1) (h2 : b[4 * i + 2]? = some x2) (h3 : b[4 * i + 3]? = some x3)
    (l1 : x1 < 256) (l2 : x2 < 256) (l3 : x3 < 256) : be b i = ((x0 * 16777216 ||| x1 * 65536) ||| x2 * 256) ||| x3 := by
  have g : ∀ {j x : Nat}, b[j]? = some x → b.getD j 0 = x := fun h => by rw [List.getD_eq_getElem?_getD, h]; rfl
  have o : ∀ (n x y : Nat), y < 2 ^ n → x * 2 ^ n ||| y = x * 2 ^ n + y := fun n x y hy => by
    rw [← Nat.shiftLeft_eq, Nat.shiftLeft_add_eq_or_of_lt hy]
  unfold be
  rw [g h0, g h1, g h2, g h3]
  have e1 := o 24 x0 (x1 * 65536) (by omega)
  have e2 := o 16 (x0 * 256 + x1) (x2 * 256) (by omega)
  have e3 := o 8 (x0 * 65536 + x1 * 256 + x2) x3 (by omega)
  rw [show x0 * 16777216 = x0 * 2 ^ 24 by omega, e1, show x0 * 2 ^ 24 + x1 * 65536 = (x0 * 256 + x1) * 2 ^ 16 by omega, e2, show (x0 * 256 + x1) * 2 ^ 16 + x2 * 256 = (x0 * 65536 + x1 * 256 + x2) * 2 ^ 8 by omega, e3]
def first (b : List Nat) : List Nat := (List.range 16).map (be b)
/-- words 0 .. n-1 of the schedule, n from 16 on -/
def more (w : List Nat) : Nat → List Nat
  | 0 => w
  | n + 1 => more w n ++ [nextW (more w n) (16 + n)]
def sched (b : List Nat) : List Nat := more (first b) 48
def s1 (e : Nat) : Nat := ror e 6 ^^^ ror e 11 ^^^ ror e 25
def s0 (a : Nat) : Nat := ror a 2 ^^^ ror a 13 ^^^ ror a 22
def ch (e f g : Nat) : Nat := (e &&& f) ^^^ ((4294967295 - e) &&& g)
theorem flip_eq {e : Nat} (h : e < 4294967296) : 4294967295 ^^^ e = 4294967295 - e := by
  apply Nat.eq_of_testBit_eq
  intro i
  rw [Nat.testBit_xor, show (4294967295 : Nat) - e = 2 ^ 32 - (e + 1) by omega, Nat.testBit_two_pow_sub_succ (by omega), show (4294967295 : Nat) = 2 ^ 32 - 1 from rfl, Nat.testBit_two_pow_sub_one]
  by_cases hi : i < 32
  · simp [hi]
  · have : e.testBit i = false := Nat.testBit_lt_two_pow (Nat.lt_of_lt_of_le (show e < 2 ^ 32 from h) (Nat.pow_le_pow_right (by decide) (by omega)))
    simp [hi, this]
def maj (a b c : Nat) : Nat := (a &&& b) ^^^ (a &&& c) ^^^ (b &&& c)
structure St where
  (a b c d e f g h : Nat)
def St.ok (s : St) : Prop := s.a < 4294967296 ∧ s.b < 4294967296 ∧ s.c < 4294967296 ∧ s.d < 4294967296 ∧ s.e < 4294967296 ∧ s.f < 4294967296 ∧ s.g < 4294967296 ∧ s.h < 4294967296
def St.list (s : St) : List Nat := [s.a, s.b, s.c, s.d, s.e, s.f, s.g, s.h]
def St.one (s : St) (k w : Nat) : Nat := (s.h + s1 s.e + ch s.e s.f s.g + k + w) % 4294967296
def St.two (s : St) : Nat := (s0 s.a + maj s.a s.b s.c) % 4294967296
def St.step (s : St) (k w : Nat) : St := ⟨(s.one k w + s.two) % 4294967296, s.a, s.b, s.c, (s.d + s.one k w) % 4294967296, s.e, s.f, s.g⟩
def rounds (w : List Nat) (s : St) : Nat → St
  | 0 => s
  | n + 1 => (rounds w s n).step (K.getD n 0) (w.getD n 0)
def St.add (s t : St) : St := ⟨(s.a + t.a) % 4294967296, (s.b + t.b) % 4294967296, (s.c + t.c) % 4294967296, (s.d + t.d) % 4294967296, (s.e + t.e) % 4294967296, (s.f + t.f) % 4294967296, (s.g + t.g) % 4294967296, (s.h + t.h) % 4294967296⟩
theorem add_getD (s t : St) (k : Nat) (h : k < 8) : (s.add t).list.getD k 0 = (s.list.getD k 0 + t.list.getD k 0) % 4294967296 := by
  match k, h with
  | 0, _ => rfl
  | 1, _ => rfl
  | 2, _ => rfl
  | 3, _ => rfl
  | 4, _ => rfl
  | 5, _ => rfl
  | 6, _ => rfl
  | 7, _ => rfl
def mix (h : St) (blk : List Nat) : St := (rounds (sched blk) h 64).add h
def iv : St := ⟨0x6a09e667, 0xbb67ae85, 0x3c6ef372, 0xa54ff53a, 0x510e527f, 0x9b05688c, 0x1f83d9ab, 0x5be0cd19⟩
/-- so many blocks of bytes -/
def blocks (l : List Nat) : Nat → St
  | 0 => iv
  | n + 1 => mix (blocks l n) ((l.drop (64 * n)).take 64)
def zeros (n : Nat) : Nat := (119 - n % 64) % 64
def padded (l : List Nat) : List Nat := l ++ 0x80 :: List.replicate (zeros l.length) 0 ++ beb (8 * l.length) 8
def word4 (v : Nat) : List Nat := [v / 16777216 % 256, v / 65536 % 256, v / 256 % 256, v % 256]
def digest (l : List Nat) : List Nat := (blocks (padded l) ((padded l).length / 64)).list.flatMap word4
end Go.Proofs.YtlhaempecidohaaGreatDoor.Sha
namespace Go.Proofs.YtlhaempecidohaaGreatDoor.Sha
theorem getD_lt {b : List Nat} (hb : ∀ x ∈ b, x < 256) (i : Nat) : b.getD i 0 < 256 := by
  rw [List.getD_eq_getElem?_getD]
  by_cases h : i < b.length
  · rw [List.getElem?_eq_getElem h]; exact hb _ (List.getElem_mem h)
  · rw [List.getElem?_eq_none (by omega)]; decide
theorem be_lt {b : List Nat} (hb : ∀ x ∈ b, x < 256) (i : Nat) : be b i < 4294967296 := by
  unfold be
  have h0 := getD_lt hb (4 * i)
  have h1 := getD_lt hb (4 * i + 1)
  have h2 := getD_lt hb (4 * i + 2)
  have h3 := getD_lt hb (4 * i + 3)
  omega
theorem more_len (w : List Nat) : ∀ n, (more w n).length = w.length + n
  | 0 => rfl
  | n + 1 => by rw [more, List.length_append, more_len w n]; simp; omega
theorem more_get (w : List Nat) (n : Nat) : ∀ d j, j < w.length + n → (more w (n + d)).getD j 0 = (more w n).getD j 0
  | 0, j, _ => rfl
  | d + 1, j, h => by
    rw [← Nat.add_assoc, more, List.getD_eq_getElem?_getD, List.getElem?_append_left (by rw [more_len]; omega), ← List.getD_eq_getElem?_getD]
    exact more_get w n d j h
theorem first_len (b : List Nat) : (first b).length = 16 := by simp [first]
theorem sched_len (b : List Nat) : (sched b).length = 64 := by unfold sched; rw [more_len, first_len]
theorem sched_first (b : List Nat) (j : Nat) (h : j < 16) : (sched b).getD j 0 = be b j := by
  unfold sched
  have := more_get (first b) 0 48 j (by rw [first_len]; exact h)
  rw [Nat.zero_add] at this
  rw [this]
  show (first b).getD j 0 = _
  rw [List.getD_eq_getElem?_getD]
  simp [first, List.getElem?_range h]
theorem sched_next (b : List Nat) (j : Nat) (h : 16 ≤ j) (h2 : j < 64) : (sched b).getD j 0 = nextW (sched b) j := by
  obtain ⟨n, rfl⟩ : ∃ n, j = 16 + n := ⟨j - 16, by omega⟩
  have e0 : (sched b).getD (16 + n) 0 = (more (first b) (n + 1)).getD (16 + n) 0 := by
    have := more_get (first b) (n + 1) (47 - n) (16 + n) (by rw [first_len]; omega)
    rw [show n + 1 + (47 - n) = 48 by omega] at this
    exact this
  have e1 : ∀ i, i < 16 + n → (more (first b) n).getD i 0 = (sched b).getD i 0 := fun i hi => by
    have := more_get (first b) n (48 - n) i (by rw [first_len]; exact hi)
    rw [show n + (48 - n) = 48 by omega] at this
    exact this.symm
  rw [e0, more, List.getD_eq_getElem?_getD, List.getElem?_append_right (by rw [more_len, first_len]; omega), more_len, first_len, Nat.sub_self]
  show nextW (more (first b) n) (16 + n) = nextW (sched b) (16 + n)
  unfold nextW
  rw [e1 _ (by omega), e1 _ (by omega), e1 _ (by omega), e1 _ (by omega)]
theorem sched_lt (b : List Nat) (hb : ∀ x ∈ b, x < 256) (j : Nat) : (sched b).getD j 0 < 4294967296 := by
  by_cases h : j < 16
  · rw [sched_first b j h]; exact be_lt hb j
  · by_cases h2 : j < 64
    · rw [sched_next b j (by omega) h2]; exact Nat.mod_lt _ (by decide)
    · rw [List.getD_eq_getElem?_getD, List.getElem?_eq_none (by rw [sched_len]; omega)]; decide
theorem step_ok {s : St} (h : s.ok) (k w : Nat) : (s.step k w).ok := by
  obtain ⟨ha, hb, hc, hd, he, hf, hg, hh⟩ := h
  exact ⟨Nat.mod_lt _ (by decide), ha, hb, hc, Nat.mod_lt _ (by decide), he, hf, hg⟩
theorem rounds_ok (w : List Nat) {s : St} (h : s.ok) : ∀ n, (rounds w s n).ok
  | 0 => h
  | n + 1 => step_ok (rounds_ok w h n) _ _
theorem add_ok (s t : St) : (s.add t).ok := by
  refine ⟨?_, ?_, ?_, ?_, ?_, ?_, ?_, ?_⟩ <;> exact Nat.mod_lt _ (by decide)
theorem mix_ok (h : St) (b : List Nat) : (mix h b).ok := add_ok _ _
theorem iv_ok : iv.ok := by unfold St.ok; decide +kernel
theorem blocks_ok (l : List Nat) : ∀ n, (blocks l n).ok
  | 0 => iv_ok
  | _ + 1 => mix_ok _ _
theorem padded_len (l : List Nat) : (padded l).length = 64 * ((l.length + 72) / 64) := by
  unfold padded zeros
  simp only [List.length_append, List.length_cons, List.length_replicate, beb_length]
  omega
theorem padded_lt {l : List Nat} (h : ∀ x ∈ l, x < 256) : ∀ x ∈ padded l, x < 256 := by
  intro x hx
  unfold padded at hx
  simp only [List.mem_append, List.mem_cons, List.mem_replicate] at hx
  rcases hx with (hx | rfl | ⟨-, rfl⟩) | hx
  · exact h x hx
  · decide
  · decide
  · exact beb_lt _ _ x hx
end Go.Proofs.YtlhaempecidohaaGreatDoor.Sha
namespace Go.Proofs.YtlhaempecidohaaGreatDoor
namespace Crc
def turn : Nat := 0xedb88320
def half (c : Nat) : Nat := if c % 2 = 1 then (c / 2) ^^^ turn else c / 2
def halves : Nat → Nat → Nat
  | 0, c => c
  | k + 1, c => half (halves k c)
def byte (c x : Nat) : Nat := halves 8 (c ^^^ x)
def all (l : List Nat) (c : Nat) : Nat := l.foldl byte c
def crc (l : List Nat) : Nat := all l 0xffffffff ^^^ 0xffffffff
-- the reference
def rhalf (x c k : Nat) : Nat := if (c &&& 1) ^^^ ((x >>> k) &&& 1) = 1 then (c / 2) ^^^ turn else c / 2
def rhalves (x : Nat) : Nat → Nat → Nat
  | 0, c => c
  | k + 1, c => rhalf x (rhalves x k c) k
theorem xor_div2 (a b : Nat) : (a ^^^ b) / 2 = a / 2 ^^^ b / 2 := by
  apply Nat.eq_of_testBit_eq; intro i; simp [Nat.testBit_div_two]
theorem half_eq (c x k : Nat) : half (c ^^^ (x >>> k)) = rhalf x c k ^^^ (x >>> (k + 1)) := by
  unfold half rhalf
  have e : (c ^^^ (x >>> k)) % 2 = (c &&& 1) ^^^ ((x >>> k) &&& 1) := by
    rw [← Nat.and_one_is_mod]
    apply Nat.eq_of_testBit_eq; intro i
    simp only [Nat.testBit_xor, Nat.testBit_and]
    cases c.testBit i <;> cases (x >>> k).testBit i <;> cases (Nat.testBit 1 i) <;> rfl
  rw [e, xor_div2]
  have : x >>> k / 2 = x >>> (k+1) := by simp [Nat.shiftRight_succ]
  rw [this]
  split
  · rw [Nat.xor_assoc, Nat.xor_comm (x >>> (k+1)), ← Nat.xor_assoc]
  · rfl
theorem halves_eq (x c : Nat) (k : Nat) : halves k (c ^^^ x) = rhalves x k c ^^^ (x >>> k) := by
  induction k with
  | zero => simp [halves, rhalves]
  | succ k ih => rw [halves, ih, half_eq, rhalves]
theorem byte_eq (c x : Nat) (hx : x < 256) : byte c x = rhalves x 8 c := by
  unfold byte; rw [halves_eq, Nat.shiftRight_eq_div_pow, Nat.div_eq_of_lt (by simpa using hx), Nat.xor_zero]
-- bounds
theorem half_lt (c : Nat) (h : c < 4294967296) : half c < 4294967296 := by
  unfold half; split
  · exact Nat.xor_lt_two_pow (n := 32) (by omega) (by decide)
  · omega
theorem halves_lt (k c : Nat) (h : c < 4294967296) : halves k c < 4294967296 := by
  induction k with
  | zero => exact h
  | succ k ih => exact half_lt _ ih
theorem byte_lt (c x : Nat) (h : c < 4294967296) (hx : x < 256) : byte c x < 4294967296 :=
  halves_lt _ _ (Nat.xor_lt_two_pow (n := 32) (by omega) (by omega))
theorem all_lt (l : List Nat) : ∀ c, c < 4294967296 → (∀ x ∈ l, x < 256) → all l c < 4294967296 := by
  induction l with
  | nil => intro c h _; exact h
  | cons x l ih => intro c h hx; exact ih _ (byte_lt c x h (hx x (by simp))) (fun y hy => hx y (by simp [hy]))
theorem all_snoc (l : List Nat) (x c : Nat) : all (l ++ [x]) c = byte (all l c) x := by simp [all]
theorem crc_lt (l : List Nat) (hx : ∀ x ∈ l, x < 256) : crc l < 4294967296 :=
  Nat.xor_lt_two_pow (n := 32) (all_lt l _ (by decide) hx) (by decide)
theorem rhalves_lt (x k c : Nat) (h : c < 4294967296) : rhalves x k c < 4294967296 := by
  induction k with
  | zero => exact h
  | succ k ih => 
    unfold rhalves rhalf; split
    · exact Nat.xor_lt_two_pow (n := 32) (by omega) (by decide)
    · omega
-- one other bit
theorem half_inj (a b : Nat) (ha : a < 4294967296) (hb : b < 4294967296) (h : half a = half b) : a = b := by
  have key : ∀ c, c < 4294967296 → (half c).testBit 31 = decide (c % 2 = 1) := by
    intro c hc
    unfold half
    have hs : (c / 2).testBit 31 = false := Nat.testBit_lt_two_pow (by omega)
    have ht : turn.testBit 31 = true := by decide
    split
    · rename_i h1; rw [Nat.testBit_xor, hs, ht]; simp [h1]
    · rename_i h1; rw [hs]; simp [h1]
  have k1 := key a ha
  have k2 := key b hb
  rw [h, k2] at k1
  have hp : (a % 2 = 1) = (b % 2 = 1) := by
    have := congrArg (· = true) k1; simp only [decide_eq_true_eq] at this; exact this.symm
  unfold half at h
  have hd : a / 2 = b / 2 := by
    by_cases h1 : b % 2 = 1
    · rw [if_pos h1, if_pos (by rw [hp]; exact h1)] at h
      have := congrArg (· ^^^ turn) h
      simpa [Nat.xor_assoc] using this
    · rw [if_neg h1, if_neg (by rw [hp]; exact h1)] at h; exact h
  have : (a % 2 = 1) ↔ (b % 2 = 1) := by rw [hp]
  omega
theorem halves_inj (k a b : Nat) (ha : a < 4294967296) (hb : b < 4294967296) (h : halves k a = halves k b) : a = b := by
  induction k with
  | zero => exact h
  | succ k ih => exact ih (half_inj _ _ (halves_lt _ _ ha) (halves_lt _ _ hb) h)
theorem all_inj (l : List Nat) : ∀ a b, a < 4294967296 → b < 4294967296 → (∀ x ∈ l, x < 256) → all l a = all l b → a = b := by
  induction l with
  | nil => intro a b _ _ _ h; exact h
  | cons x l ih =>
    intro a b ha hb hx h
    have hxx := hx x (by simp)
    have e := ih (byte a x) (byte b x) (byte_lt _ _ ha hxx) (byte_lt _ _ hb hxx) (fun y hy => hx y (by simp [hy])) h
    have e2 := halves_inj 8 _ _ (Nat.xor_lt_two_pow (n := 32) (by omega) (by omega)) (Nat.xor_lt_two_pow (n := 32) (by omega) (by omega)) e
    have := congrArg (· ^^^ x) e2
    simpa [Nat.xor_assoc] using this
theorem crc_other (p s : List Nat) (x y : Nat) (hp : ∀ z ∈ p, z < 256) (hs : ∀ z ∈ s, z < 256) (hx : x < 256) (hy : y < 256) (hne : x ≠ y) :
    crc (p ++ x :: s) ≠ crc (p ++ y :: s) := by
  intro h
  unfold crc at h
  have h1 : all (p ++ x :: s) 0xffffffff = all (p ++ y :: s) 0xffffffff := by
    have := congrArg (· ^^^ 0xffffffff) h
    simpa [Nat.xor_assoc] using this
  simp only [all, List.foldl_append, List.foldl_cons] at h1
  have hc : p.foldl byte 0xffffffff < 4294967296 := all_lt p _ (by decide) hp
  have e := all_inj s _ _ (byte_lt _ _ hc hx) (byte_lt _ _ hc hy) hs h1
  have e2 := halves_inj 8 _ _ (Nat.xor_lt_two_pow (n := 32) (by omega) (by omega)) (Nat.xor_lt_two_pow (n := 32) (by omega) (by omega)) e
  have := congrArg (p.foldl byte 0xffffffff ^^^ ·) e2
  simp only [← Nat.xor_assoc, Nat.xor_self, Nat.zero_xor] at this
  exact hne this
theorem known : crc [49, 50, 51, 52, 53, 54, 55, 56, 57] = 0xcbf43926 := by decide +kernel
end Crc
end Go.Proofs.YtlhaempecidohaaGreatDoor
namespace Go.Proofs.YtlhaempecidohaaGreatDoor
/-- the kind and the payload's length that a right head tells -/
def hd (b : List Nat) : Option (Nat × Nat) :=
  if 44 ≤ b.length ∧ b.take 3 = [99, 117, 98] ∧ 1 ≤ num ((b.drop 3).take 1) ∧ num ((b.drop 3).take 1) ≤ 3 ∧ num ((b.drop 4).take 4) ≤ 30000 ∧ num ((b.drop 8).take 4) = Crc.crc (b.take 8) then
    some (num ((b.drop 3).take 1), num ((b.drop 4).take 4)) else none
theorem hd_none_short {b : List Nat} (h : b.length < 44) : hd b = none := by
  unfold hd; rw [if_neg (fun hh => by omega)]
theorem hd_none_cub {b : List Nat} (h : b.take 3 ≠ [99, 117, 98]) : hd b = none := by
  unfold hd; rw [if_neg (fun hh => h hh.2.1)]
theorem hd_cub {b : List Nat} {r : Nat × Nat} (h : hd b = some r) : 44 ≤ b.length ∧ b.take 3 = [99, 117, 98] := by
  unfold hd at h
  split at h
  · rename_i hh; exact ⟨hh.1, hh.2.1⟩
  · cases h
theorem hd_le {b : List Nat} {k n : Nat} (h : hd b = some (k, n)) : 1 ≤ k ∧ k ≤ 3 ∧ n ≤ 30000 := by
  unfold hd at h
  split at h
  · rename_i hh
    simp only [Option.some.injEq, Prod.mk.injEq] at h
    obtain ⟨rfl, rfl⟩ := h
    exact ⟨hh.2.2.1, hh.2.2.2.1, hh.2.2.2.2.1⟩
  · cases h
/-- the first place from 'at' on at which a right head stands -/
def find (b : List Nat) (i : Nat) : Option Nat :=
  if i < b.length then (if (hd (b.drop i)).isSome then some i else find b (i + 1)) else none
termination_by b.length - i
theorem find_end {b : List Nat} {i : Nat} (h : b.length ≤ i) : find b i = none := by rw [find, if_neg (by omega)]
theorem find_here {b : List Nat} {i : Nat} {r : Nat × Nat} (h : hd (b.drop i) = some r) : find b i = some i := by
  have := (hd_cub h).1
  rw [List.length_drop] at this
  rw [find, if_pos (by omega), h]; rfl
theorem find_next {b : List Nat} {i : Nat} (h : hd (b.drop i) = none) : find b i = find b (i + 1) := by
  by_cases hi : i < b.length
  · conv => lhs; rw [find]
    rw [if_pos hi, h]; rfl
  · rw [find_end (by omega), find_end (by omega)]
theorem find_skip {b : List Nat} {i : Nat} : ∀ d, (∀ j, j < d → hd (b.drop (i + j)) = none) → find b i = find b (i + d)
  | 0, _ => rfl
  | d + 1, h => by rw [find_skip d (fun j hj => h j (by omega)), find_next (h d (by omega)), Nat.add_assoc]
theorem find_none {b : List Nat} {i : Nat} (h : ∀ j, i ≤ j → hd (b.drop j) = none) : find b i = none := by
  by_cases hi : i < b.length
  · rw [find_skip (b.length - i) (fun j _ => h (i + j) (by omega)), find_end (by omega)]
  · exact find_end (by omega)
theorem find_spec {b : List Nat} {i j : Nat} (h : find b i = some j) : i ≤ j ∧ j < b.length ∧ ∃ k n, hd (b.drop j) = some (k, n) := by
  induction hm : b.length - i generalizing i with
  | zero => rw [find_end (by omega)] at h; cases h
  | succ m ih =>
    rw [find, if_pos (by omega)] at h
    split at h
    · rename_i hs
      cases h
      obtain ⟨⟨k, n⟩, hr⟩ := Option.isSome_iff_exists.1 hs
      exact ⟨Nat.le_refl _, by omega, k, n, hr⟩
    · have := ih h (by omega)
      exact ⟨by omega, this.2⟩
/-- a record: where it stands, its kind, its payload -/
abbrev RecP := Nat × Nat × List Nat
/-- what a frame at i, with a payload of n bytes, gives -/
def recAt (b : List Nat) (i k n : Nat) : List RecP :=
  if Sha.digest ((b.drop (i + 44)).take n) = (b.drop (i + 12)).take 32 then [(i, k, (b.drop (i + 44)).take n)] else []
/-- all records from i on, and where the rest is torn -/
def scan (b : List Nat) (i : Nat) : List RecP × Nat :=
  match _ : find b i with
  | none => ([], i)
  | some j =>
    match hd (b.drop j) with
    | none => ([], i)
    | some (k, n) => if b.length < j + 44 + n then ([], j) else (recAt b j k n ++ (scan b (j + 44 + n)).1, (scan b (j + 44 + n)).2)
termination_by b.length - i
decreasing_by all_goals (have := find_spec (by assumption); omega)
theorem scan_none {b : List Nat} {i : Nat} (h : find b i = none) : scan b i = ([], i) := by
  rw [scan]; split
  · rfl
  · rename_i j hj; rw [h] at hj; cases hj
theorem scan_some {b : List Nat} {i j k n : Nat} (h : find b i = some j) (hh : hd (b.drop j) = some (k, n)) :
    scan b i = if b.length < j + 44 + n then ([], j) else (recAt b j k n ++ (scan b (j + 44 + n)).1, (scan b (j + 44 + n)).2) := by
  rw [scan]; split
  · rename_i hj; rw [h] at hj; cases hj
  · rename_i j' hj
    rw [h] at hj
    cases hj
    rw [hh]
theorem scan_same {b : List Nat} {i j : Nat} (h : find b i = some j) : scan b i = scan b j := by
  obtain ⟨_, _, k, n, hh⟩ := find_spec h
  rw [scan_some h hh, scan_some (find_here hh) hh]
theorem scan_here {b : List Nat} {i k n : Nat} (hh : hd (b.drop i) = some (k, n)) :
    scan b i = if b.length < i + 44 + n then ([], i) else (recAt b i k n ++ (scan b (i + 44 + n)).1, (scan b (i + 44 + n)).2) := scan_some (find_here hh) hh
end Go.Proofs.YtlhaempecidohaaGreatDoor
namespace Go.Proofs.YtlhaempecidohaaGreatDoor
theorem beb_inj {n a b : Nat} (ha : a < 256 ^ n) (hb : b < 256 ^ n) (h : beb a n = beb b n) : a = b := by
  rw [← num_beb n a ha, ← num_beb n b hb, h]
def pageH (k : Nat) (p : List Nat) : List Nat := [112, 97, 103] ++ beb k 1 ++ beb p.length 4 ++ p
def page (k : Nat) (p : List Nat) : List Nat := pageH k p ++ beb (Crc.crc (pageH k p)) 4
def payload (b : List Nat) : List Nat := (b.drop 8).take (b.length - 4 - 8)
def isPage (k : Int) (b : List Nat) : Prop := 12 ≤ b.length ∧ 1 ≤ k ∧ k ≤ 3 ∧ (payload b).length ≤ 60000 ∧ page k.toNat (payload b) = b
theorem pageH_length (k : Nat) (p : List Nat) : (pageH k p).length = p.length + 8 := by simp [pageH, beb_length]; omega
theorem page_length (k : Nat) (p : List Nat) : (page k p).length = p.length + 12 := by simp [page, pageH_length, beb_length]
theorem pageH_lt (k : Nat) (p : List Nat) (hp : ∀ x ∈ p, x < 256) : ∀ x ∈ pageH k p, x < 256 := by
  intro x hx
  simp only [pageH, List.mem_append, List.mem_cons, List.not_mem_nil, or_false] at hx
  rcases hx with ((h | h) | h) | h
  · omega
  · exact beb_lt _ _ x h
  · exact beb_lt _ _ x h
  · exact hp x h
theorem page_lt (k : Nat) (p : List Nat) (hp : ∀ x ∈ p, x < 256) : ∀ x ∈ page k p, x < 256 := by
  intro x hx
  rcases List.mem_append.1 hx with h | h
  · exact pageH_lt k p hp x h
  · exact beb_lt _ _ x h
theorem payload_page (k : Nat) (p : List Nat) : payload (page k p) = p := by
  unfold payload
  rw [page_length, show p.length + 12 - 4 - 8 = p.length from by omega]
  have e : page k p = ([112, 97, 103] ++ beb k 1 ++ beb p.length 4) ++ (p ++ beb (Crc.crc (pageH k p)) 4) := by simp [page, pageH]
  rw [e, List.drop_append_of_le_length (by simp [beb_length]), List.drop_of_length_le (by simp [beb_length]), List.nil_append, List.take_left]
theorem page_isPage (k : Nat) (p : List Nat) (h1 : 1 ≤ k) (h2 : k ≤ 3) (h3 : p.length ≤ 60000) : isPage k (page k p) :=
  ⟨by rw [page_length]; omega, by omega, by omega, by rw [payload_page]; exact h3, by rw [payload_page, Int.toNat_natCast]⟩
theorem page_take (k : Nat) (p : List Nat) : (page k p).take 8 = [112, 97, 103] ++ beb k 1 ++ beb p.length 4 := by
  have e : page k p = ([112, 97, 103] ++ beb k 1 ++ beb p.length 4) ++ (p ++ beb (Crc.crc (pageH k p)) 4) := by simp [page, pageH]
  rw [e]
  exact List.take_left' (by simp [beb_length])
theorem page_kind {k k' : Nat} {p p' : List Nat} (h : page k p = page k' p') (hk : k < 256) (hk' : k' < 256) : k = k' := by
  have h8 := congrArg (List.take 8) h
  rw [page_take, page_take] at h8
  simp only [List.append_assoc, List.append_cancel_left_eq] at h8
  have := List.append_inj_left h8 (by simp [beb_length])
  exact beb_inj (n := 1) (by simpa using hk) (by simpa using hk') this
theorem page_len {k k' : Nat} {p p' : List Nat} (h : (page k p).take 8 = (page k' p').take 8) (hp : p.length < 4294967296) (hp' : p'.length < 4294967296) : p.length = p'.length := by
  rw [page_take, page_take] at h
  have := List.append_inj_right' h (by simp [beb_length])
  exact beb_inj (n := 4) (by simpa using hp) (by simpa using hp') this
theorem page_other (k k' : Nat) (p : List Nat) (h1 : k < 256) (h2 : k' < 256) (h : k ≠ k') : ¬ isPage k' (page k p) := by
  rintro ⟨_, _, _, _, he⟩
  rw [Int.toNat_natCast] at he
  exact h (page_kind he h2 h1).symm
theorem page_cut (k : Nat) (p : List Nat) (hp : p.length < 60000) (j : Nat) (hj : j < (page k p).length) : ¬ isPage k ((page k p).take j) := by
  rintro ⟨hl, _, _, hpl, he⟩
  rw [Int.toNat_natCast] at he
  have hlen := congrArg List.length he
  rw [page_length, List.length_take] at hlen
  rw [List.length_take] at hl
  have := page_len (k := k) (k' := k) (p := payload ((page k p).take j)) (p' := p) (by rw [he, List.take_take, show min 8 j = 8 from by omega]) (by omega) (by omega)
  rw [page_length] at hj
  omega
theorem page_more (k : Nat) (p : List Nat) (x : Nat) (hp : p.length < 60000) : ¬ isPage k (page k p ++ [x]) := by
  rintro ⟨hl, _, _, hpl, he⟩
  rw [Int.toNat_natCast] at he
  have hlen := congrArg List.length he
  rw [page_length, List.length_append, page_length] at hlen
  have := page_len (k := k) (k' := k) (p := payload (page k p ++ [x])) (p' := p) (by rw [he, List.take_append_of_le_length (by rw [page_length]; omega)]) (by omega) (by omega)
  simp at hlen
  omega
theorem set_split {l : List Nat} {i x : Nat} (h : l[i]? = some x) : ∃ a b, l = a ++ x :: b ∧ a.length = i ∧ ∀ y, l.set i y = a ++ y :: b := by
  have hi : i < l.length := (List.getElem?_eq_some_iff.1 h).1
  have hx : l[i] = x := (List.getElem?_eq_some_iff.1 h).2
  refine ⟨l.take i, l.drop (i + 1), ?_, by rw [List.length_take]; omega, fun y => ?_⟩
  · rw [← hx, ← List.drop_eq_getElem_cons hi, List.take_append_drop]
  · rw [List.set_eq_take_append_cons_drop, if_pos hi]
theorem page_turned (k : Nat) (p : List Nat) (hp : ∀ x ∈ p, x < 256) (i x y : Nat) (hx : (page k p)[i]? = some x) (hy : y < 256) (hne : x ≠ y) : ¬ isPage k ((page k p).set i y) := by
  rintro ⟨hl, _, _, hpl, he⟩
  rw [Int.toNat_natCast] at he
  generalize hq : payload ((page k p).set i y) = q at he hpl
  have hi : i < (page k p).length := (List.getElem?_eq_some_iff.1 hx).1
  have hlen := congrArg List.length he
  rw [page_length, List.length_set, page_length] at hlen
  have hql : q.length = p.length := by omega
  have hq2 : ∀ z ∈ q, z < 256 := by
    intro z hz
    rw [← hq] at hz
    have := List.mem_of_mem_drop (List.mem_of_mem_take hz)
    rcases List.mem_or_eq_of_mem_set this with h | h
    · exact page_lt k p hp z h
    · rw [h]; exact hy
  have hH := pageH_length k p
  have hH' := pageH_length k q
  rcases Nat.lt_or_ge i (pageH k p).length with h | h
  · -- ahead of the sum
    have hs : (page k p).set i y = (pageH k p).set i y ++ beb (Crc.crc (pageH k p)) 4 := by rw [page, List.set_append_left _ _ h]
    rw [hs] at he
    have h1 := List.append_inj_left he (by rw [List.length_set]; omega)
    have h2 := List.append_inj_right he (by rw [List.length_set]; omega)
    have h3 := beb_inj (n := 4) (by simpa using Crc.crc_lt _ (pageH_lt k q hq2)) (by simpa using Crc.crc_lt _ (pageH_lt k p hp)) h2
    have hxx : (pageH k p)[i]? = some x := by rw [← hx, page, List.getElem?_append_left h]
    obtain ⟨a, b, e1, _, e2⟩ := set_split hxx
    rw [h1, e2, e1] at h3
    have hall := pageH_lt k p hp
    rw [e1] at hall
    exact Crc.crc_other a b x y (fun z hz => hall z (by simp [hz])) (fun z hz => hall z (by simp [hz])) (hall x (by simp)) hy hne h3.symm
  · have hs : (page k p).set i y = pageH k p ++ (beb (Crc.crc (pageH k p)) 4).set (i - (pageH k p).length) y := by rw [page, List.set_append_right _ _ h]
    rw [hs] at he
    have h1 := List.append_inj_left he (by omega)
    have h2 := List.append_inj_right he (by omega)
    rw [h1] at h2
    have hxx : (beb (Crc.crc (pageH k p)) 4)[i - (pageH k p).length]? = some x := by rw [← hx, page, List.getElem?_append_right h]
    have := congrArg (fun l => l[i - (pageH k p).length]?) h2
    simp only [hxx, List.getElem?_set] at this
    rw [if_pos trivial, if_pos (List.getElem?_eq_some_iff.1 hxx).1] at this
    injection this with this
    exact hne this
end Go.Proofs.YtlhaempecidohaaGreatDoor
