/-
  The walk of the reference's CRC.
-/
import Derived.Test.YtinndlofnpkfhaaSum
namespace Go.Proofs.Ytinndlofnpkfhaa
open Go.RowKit

set_option maxHeartbeats 400000 in
theorem rcrc_any (A : Option Addr) (n c : Nat) (l : List Nat) (w : World) (h : RB w A n l) (hn : n ≤ 1000000) :
    Calls Try.prog 18 #[.slice A n c] w fun e w' => e = .returned (.int .u32 ((Crc.crc l : Nat) : Int)) ∧ w = w' := by
  go_enter Try.func18, Try.ntmps18
  go_wp2
  go_loop [3, 9] (fun v i => ∃ k : Nat, k ≤ n ∧ i = .int .i64 k ∧ v = .int .u64 ((Crc.all (l.take k) 4294967295 : Nat) : Int)) (fun _ i => n - (intOf i).toNat)
  case atStart => exact ⟨0, Nat.zero_le _, rfl, rfl⟩
  case round =>
    obtain ⟨k, hk, rfl, rfl⟩ := hrel
    by_cases hlt : k < n
    · obtain ⟨ad, x, rfl, hx, hx2, hcell⟩ := h.at_ hlt
      have hlc : Crc.all (l.take k) 4294967295 < 4294967296 := Crc.all_lt _ _ (by decide) (fun y hy => h.2.1 y (List.mem_of_mem_take hy))
      obtain ⟨q, hq⟩ : ∃ q, q = Crc.all (l.take k) 4294967295 := ⟨_, rfl⟩
      rw [← hq] at hlc ⊢
      have HX := Lib.hid hx
      have HQ := Lib.hid hq
      clear hx hq
      go_wp2
      go_loop [3, 12] (fun v i => ∃ m : Nat, m ≤ 8 ∧ i = .int .i64 m ∧ v = .int .u64 ((Crc.rhalves x m q : Nat) : Int)) (fun _ i => 8 - (intOf i).toNat)
      case atStart => exact ⟨0, Nat.zero_le _, rfl, rfl⟩
      case round =>
        obtain ⟨m, hm, rfl, rfl⟩ := hrel
        have hp : Crc.rhalves x m q < 4294967296 := Crc.rhalves_lt _ _ _ hlc
        have HS := Lib.hid (show Crc.rhalves x (m + 1) q = Crc.rhalf x (Crc.rhalves x m q) m from rfl)
        obtain ⟨p, hpe⟩ : ∃ p, p = Crc.rhalves x m q := ⟨_, rfl⟩
        rw [← hpe] at hp HS ⊢
        have HP := Lib.hid hpe
        clear hpe
        obtain ⟨pa, hpa⟩ : ∃ pa, pa = p &&& 1 := ⟨_, rfl⟩
        obtain ⟨xa, hxa⟩ : ∃ xa, xa = (x >>> m) &&& 1 := ⟨_, rfl⟩
        obtain ⟨xx, hxx⟩ : ∃ xx, xx = pa ^^^ xa := ⟨_, rfl⟩
        have pa2 : pa < 2 := by rw [hpa, Nat.and_one_is_mod]; omega
        have xa2 : xa < 2 := by rw [hxa, Nat.and_one_is_mod]; omega
        have b1 : bits .and .u64 (p : Int) 1 = (pa : Int) := by rw [hpa]; exact u64_and_nat p 1 (by omega) (by decide)
        have b2 : bits .and .u8 ((x : Int) / 2 ^ m) 1 = (xa : Int) := by
          have hd : x / 2 ^ m ≤ x := Nat.div_le_self _ _
          have e : ((x : Int) / 2 ^ m) = ((x / 2 ^ m : Nat) : Int) := by simp
          rw [e, hxa, Nat.shiftRight_eq_div_pow]; exact u8_and_nat _ 1 (by omega) (by decide)
        have b4 : bits .xor .u64 (pa : Int) (xa : Int) = (xx : Int) := by rw [hxx]; exact u64_xor_nat _ _ (by omega) (by omega)
        have b5 : bits .xor .u64 ((p : Int) / 2) 3988292384 = ((p / 2 ^^^ Crc.turn : Nat) : Int) := u64_xor_nat (p / 2) _ (by omega) (by decide)
        have HH : Hid (Crc.rhalf x p m = if xx = 1 then p / 2 ^^^ Crc.turn else p / 2) := by show _ = _; rw [hxx, hpa, hxa]; rfl
        clear hpa hxa hxx
        by_cases hmm : m < 8
        · by_cases hodd : xx = 1
          · subst hodd
            go_wp2
            go_round
            case rel => exact ⟨m + 1, by omega, by go_num, by rw [HS.out, HH.out, if_pos rfl]⟩
            case measure => simp [intOf]; omega
          · go_wp2
            go_round
            case rel => exact ⟨m + 1, by omega, by go_num, by rw [HS.out, HH.out, if_neg hodd]; go_num⟩
            case measure => simp [intOf]; omega
        · obtain rfl : m = 8 := by omega
          clear HS HH b1 b2 b4 b5
          go_wp2
          go_round
          case rel => exact ⟨k + 1, by omega, by go_num, by rw [HP.out, take_succ' HX.out, Crc.all_snoc, ← HQ.out, Crc.byte_eq _ _ hx2]⟩
          case measure => simp [intOf]; omega
    · obtain rfl : k = n := by omega
      have hlc : Crc.all l 4294967295 < 4294967296 := Crc.all_lt _ _ (by decide) h.2.1
      have b1 : bits .xor .u64 ((Crc.all l 4294967295 : Nat) : Int) 4294967295 = ((Crc.crc l : Nat) : Int) := u64_xor_nat _ 4294967295 (by omega) (by decide)
      have hcl := Crc.crc_lt l h.2.1
      rw [List.take_of_length_le (by rw [h.1]; omega)]
      go_wp2
      go_ret
      exact ⟨rfl, rfl⟩
end Go.Proofs.Ytinndlofnpkfhaa
