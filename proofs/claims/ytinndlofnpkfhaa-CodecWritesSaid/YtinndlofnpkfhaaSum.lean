/-
  The walk of sum.CRC.
-/
import Derived.Test.YtinndlofnpkfhaaRows
import Derived.Test.YtinndlofnpkfhaaCrc
import Derived.Test.YtinndlofnpkfhaaMem
namespace Go.Proofs.Ytinndlofnpkfhaa
open Go.RowKit

theorem take_succ' {l : List Nat} {k x : Nat} (h : l[k]? = some x) : l.take (k + 1) = l.take k ++ [x] := by
  rw [List.take_add_one, h]; rfl

theorem ret_u32 {a b : Int} (h : a = b) : Ending.returned (.int .u32 a) = .returned (.int .u32 b) := by rw [h]

theorem bxor (a b : Nat) (ha : a < 4294967296) (hb : b < 4294967296) : bits .xor .u32 (a : Int) (b : Int) = ((a ^^^ b : Nat) : Int) := u32_xor_nat a b ha hb

set_option maxHeartbeats 400000 in
theorem crc_any (A : Option Addr) (n c : Nat) (l : List Nat) (w : World) (h : RB w A n l) (hn : n ≤ 1000000) :
    Calls Try.prog 17 #[.slice A n c] w fun e w' => e = .returned (.int .u32 ((Crc.crc l : Nat) : Int)) ∧ w = w' := by
  go_enter Try.func17, Try.ntmps17
  go_wp2
  go_loop [3, 9] (fun v i => ∃ k : Nat, k ≤ n ∧ i = .int .i64 k ∧ v = .int .u32 ((Crc.all (l.take k) 4294967295 : Nat) : Int)) (fun _ i => n - (intOf i).toNat)
  case atStart => exact ⟨0, Nat.zero_le _, rfl, rfl⟩
  case round =>
    obtain ⟨k, hk, rfl, rfl⟩ := hrel
    by_cases hlt : k < n
    · obtain ⟨ad, x, rfl, hx, hx2, hcell⟩ := h.at_ hlt
      have hlc : Crc.all (l.take k) 4294967295 < 4294967296 := Crc.all_lt _ _ (by decide) (fun y hy => h.2.1 y (List.mem_of_mem_take hy))
      obtain ⟨q, hq⟩ : ∃ q, q = Crc.all (l.take k) 4294967295 := ⟨_, rfl⟩
      rw [← hq] at hlc ⊢
      have HX := Lib.hid hx
      have HQ := Lib.hid hq
      clear hx hq
      have b1 := bxor q x hlc (by omega)
      go_wp2
      go_loop [3, 17] (fun v i => ∃ m : Nat, m ≤ 8 ∧ i = .int .i64 m ∧ v = .int .u32 ((Crc.halves m (q ^^^ x) : Nat) : Int)) (fun _ i => 8 - (intOf i).toNat)
      case atStart => exact ⟨0, Nat.zero_le _, rfl, rfl⟩
      case round =>
        obtain ⟨m, hm, rfl, rfl⟩ := hrel
        have hp : Crc.halves m (q ^^^ x) < 4294967296 := Crc.halves_lt _ _ (Nat.xor_lt_two_pow (n := 32) (by omega) (by omega))
        have HS := Lib.hid (show Crc.halves (m + 1) (q ^^^ x) = Crc.half (Crc.halves m (q ^^^ x)) from rfl)
        obtain ⟨p, hpe⟩ : ∃ p, p = Crc.halves m (q ^^^ x) := ⟨_, rfl⟩
        rw [← hpe] at hp HS ⊢
        have HP := Lib.hid hpe
        clear b1 hpe
        have b2 : bits .and .u32 (p : Int) 1 = ((p % 2 : Nat) : Int) := by have := u32_and_nat p 1 hp (by decide); simpa [Nat.and_one_is_mod] using this
        have b3 : bits .xor .u32 ((p : Int) / 2) 3988292384 = ((p / 2 ^^^ Crc.turn : Nat) : Int) := u32_xor_nat (p / 2) _ (by omega) (by decide)
        by_cases hmm : m < 8
        · by_cases hodd : p % 2 = 1
          · have HH : Hid (Crc.half p = (p / 2 ^^^ Crc.turn)) := by show _ = _; unfold Crc.half; rw [if_pos hodd]
            go_wp2
            go_round
            case rel => exact ⟨m + 1, by omega, by go_num, by rw [HS.out, HH.out]⟩
            case measure => simp [intOf]; omega
          · have HH : Hid (Crc.half p = (p / 2)) := by show _ = _; unfold Crc.half; rw [if_neg hodd]
            go_wp2
            go_round
            case rel => exact ⟨m + 1, by omega, by go_num, by rw [HS.out, HH.out]; go_num⟩
            case measure => simp [intOf]; omega
        · obtain rfl : m = 8 := by omega
          clear HS b2 b3
          go_wp2
          go_round
          case rel => exact ⟨k + 1, by omega, by go_num, by rw [HP.out, take_succ' HX.out, Crc.all_snoc, ← HQ.out]; rfl⟩
          case measure => simp [intOf]; omega
    · obtain rfl : k = n := by omega
      have hlc : Crc.all l 4294967295 < 4294967296 := Crc.all_lt _ _ (by decide) h.2.1
      have b1 := bxor (Crc.all l 4294967295) 4294967295 hlc (by decide)
      rw [List.take_of_length_le (by rw [h.1]; omega)]
      go_wp2
      go_ret
      exact ⟨ret_u32 b1, rfl⟩
end Go.Proofs.Ytinndlofnpkfhaa
