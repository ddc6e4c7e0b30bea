/-
  The walks of bits.RotateLeft32 and of the document's turned.
-/
import Derived.Test.YtinndlofnpkfhaaArr
import Derived.Test.YtinndlofnpkfhaaSha
namespace Go.Proofs.Ytinndlofnpkfhaa
open Go.RowKit

theorem back31 (n : Nat) (h2 : n < 32) (h1 : 1 ≤ n) : bits .and .u64 (IntKind.u64.wrap (-(n : Int))) 31 = ((32 - n : Nat) : Int) :=
  (by decide +kernel : ∀ n : Nat, n < 32 → 1 ≤ n → bits .and .u64 (IntKind.u64.wrap (-(n : Int))) 31 = ((32 - n : Nat) : Int)) n h2 h1

set_option maxHeartbeats 400000 in
theorem rot_any (x n : Nat) (w : World) (hx : x < 4294967296) (h1 : 1 ≤ n) (h2 : n < 32) : Calls Try.prog 61 #[.int .u32 x, .int .i64 (-(n : Int))] w fun e w' => e = .returned (.int .u32 ((Sha.ror x n : Nat) : Int)) ∧ w = w' := by
  have b1 := back31 n h2 h1
  have b2 : bits .or .u32 (IntKind.u32.wrap ((x : Int) * 2 ^ (32 - n))) ((x : Int) / 2 ^ n) = ((Sha.ror x n : Nat) : Int) := by
    have e1 : IntKind.u32.wrap ((x : Int) * 2 ^ (32 - n)) = ((x * 2 ^ (32 - n) % 4294967296 : Nat) : Int) := by
      rw [IntKind.wrap_u32, Int.natCast_emod, Int.natCast_mul, Int.natCast_pow]; rfl
    have e2 : (x : Int) / 2 ^ n = ((x / 2 ^ n : Nat) : Int) := by rw [Int.natCast_ediv, Int.natCast_pow]; rfl
    rw [e1, e2, u32_or_nat _ _ (Nat.mod_lt _ (by decide)) (Nat.lt_of_le_of_lt (Nat.div_le_self _ _) hx), Nat.or_comm]
    rfl
  have B2 := Lib.hid b2
  obtain ⟨m, hm⟩ : ∃ m, m = 32 - n := ⟨_, rfl⟩
  rw [← hm] at b1
  have HM := Lib.hid hm
  have hm1 : m < 32 := by omega
  have hm2 : 32 - m = n := by omega
  have HN := Lib.hid hm2
  clear b2 hm hm2
  go_enter Try.func61, Try.ntmps61
  go_wp2
  go_ret
  refine ⟨?_, rfl⟩
  rw [← B2.out, ← HM.out]
  show Ending.returned (Value.int .u32 (bits .or .u32 ((x : Int) * 2 ^ m % 4294967296) ((x : Int) / 2 ^ (32 - m)))) = _
  rw [HN.out, IntKind.wrap_u32]

set_option maxHeartbeats 400000 in
theorem turned_any (x n : Nat) (w : World) (hx : x < 4294967296) (h1 : 1 ≤ n) (h2 : n < 32) : Calls Try.prog 55 #[.int .u64 x, .int .u64 n] w fun e w' => e = .returned (.int .u64 ((Sha.ror x n : Nat) : Int)) ∧ w = w' := by
  have b2 : bits .and .u64 (bits .or .u64 ((x : Int) / 2 ^ n) (IntKind.u64.wrap ((x : Int) * 2 ^ (32 - n)))) 4294967295 = ((Sha.ror x n : Nat) : Int) := by
    have hb : x * 2 ^ (32 - n) < 18446744073709551616 := by
      have h3 : (2 : Nat) ^ (32 - n) ≤ 2 ^ 31 := Nat.pow_le_pow_right (by decide) (by omega)
      have h4 : x * 2 ^ (32 - n) ≤ 4294967295 * 2 ^ 31 := Nat.mul_le_mul (by omega) h3
      omega
    have e1 : IntKind.u64.wrap ((x : Int) * 2 ^ (32 - n)) = ((x * 2 ^ (32 - n) : Nat) : Int) := by
      have h5 : ((x * 2 ^ (32 - n) : Nat) : Int) = (x : Int) * 2 ^ (32 - n) := by rw [Int.natCast_mul, Int.natCast_pow]; rfl
      rw [IntKind.wrap_u64, ← h5]; omega
    have e2 : (x : Int) / 2 ^ n = ((x / 2 ^ n : Nat) : Int) := by rw [Int.natCast_ediv, Int.natCast_pow]; rfl
    have hor : x / 2 ^ n ||| x * 2 ^ (32 - n) < 18446744073709551616 := Nat.or_lt_two_pow (n := 64) (by have := Nat.div_le_self x (2 ^ n); omega) hb
    rw [e1, e2, u64_or_nat _ _ (by have := Nat.div_le_self x (2 ^ n); omega) hb]
    have := u64_and_nat (x / 2 ^ n ||| x * 2 ^ (32 - n)) 4294967295 hor (by decide)
    rw [show ((4294967295 : Nat) : Int) = 4294967295 from rfl] at this
    rw [this, ← Sha.ror_or hx, show (4294967295 : Nat) = 2 ^ 32 - 1 from rfl, Nat.and_two_pow_sub_one_eq_mod]
  have B2 := Lib.hid b2
  clear b2
  go_enter Try.func55, Try.ntmps55
  go_wp2
  go_ret
  refine ⟨?_, rfl⟩
  rw [← B2.out]
  rfl

theorem rot_at (x n : Nat) (w : World) (hx : x < 4294967296) (h1 : 1 ≤ n) (h2 : n < 32) (z : Int) (hz : z = -(n : Int)) : Calls Try.prog 61 #[.int .u32 x, .int .i64 z] w fun e w' => e = .returned (.int .u32 ((Sha.ror x n : Nat) : Int)) ∧ w = w' := by
  subst hz; exact rot_any x n w hx h1 h2
theorem rotq (x n : Nat) (w : World) (hx : x < 4294967296) (h1 : 1 ≤ n) (h2 : n < 32) (z : Int) (hz : z = -(n : Int)) : Calls Try.prog 61 #[.int .u32 x, .int .i64 z] w fun e w' => e = .returned (.int .u32 ((Sha.ror x n : Nat) : Int)) ∧ w' = w :=
  (rot_at x n w hx h1 h2 z hz).mono fun _ _ ⟨h, k⟩ => ⟨h, k.symm⟩
theorem turnedq (x n : Nat) (w : World) (hx : x < 4294967296) (h1 : 1 ≤ n) (h2 : n < 32) (z : Int) (hz : z = (n : Int)) : Calls Try.prog 55 #[.int .u64 x, .int .u64 z] w fun e w' => e = .returned (.int .u64 ((Sha.ror x n : Nat) : Int)) ∧ w' = w := by
  subst hz; exact (turned_any x n w hx h1 h2).mono fun _ _ ⟨h, k⟩ => ⟨h, k.symm⟩
theorem xor3 (a b c q : Nat) (ha : a < 4294967296) (hb : b < 4294967296) (hc : c < 4294967296) (z : Int) (hz : z = (c : Int)) (hq : q = a ^^^ b ^^^ c) :
    ∃ m : Nat, bits .xor .u32 (a : Int) (b : Int) = (m : Int) ∧ bits .xor .u32 (m : Int) z = (q : Int) := by
  subst hz hq
  exact ⟨a ^^^ b, u32_xor_nat a b ha hb, u32_xor_nat _ _ (Sha.xor_lt ha hb) hc⟩
end Go.Proofs.Ytinndlofnpkfhaa
