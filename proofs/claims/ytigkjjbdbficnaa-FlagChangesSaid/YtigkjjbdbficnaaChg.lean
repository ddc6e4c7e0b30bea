/-
  The walks of flag.Change and of the reference's Changed.
-/
import Derived.Test.YtigkjjbdbficnaaRows
import Derived.Test.YtigkjjbdbficnaaFlg
import Derived.WalkKit
import Derived.WalkSpells
import Derived.WalkLawsBesides
import Derived.Lib.Hide
namespace Go.Proofs.Ytigkjjbdbficnaa
open Go.RowKit

set_option maxHeartbeats 400000 in
theorem change_any (a b how : Int) (w : World) :
    Calls Try.prog 7 #[.int .i64 a, .int .i64 b, .int .i64 how] w fun e w' => e = .returned (.int .i64 ((chg (lo a) (lo b) how : Nat) : Int)) ∧ w = w' := by
  have a1 := and31 a
  have a2 := and31 b
  have a3 : bits .and .i64 (bits .or .i64 a b) 31 = ((lo a ||| lo b : Nat) : Int) := by rw [and31, lo_or]
  have a4 : bits .and .i64 (bits .andNot .i64 a b) 31 = ((lo a &&& (31 - lo b) : Nat) : Int) := by rw [and31, lo_andNot]
  obtain ⟨r, hr⟩ : ∃ r, r = chg (lo a) (lo b) how := ⟨_, rfl⟩
  rw [← hr]
  have HR := Lib.hid hr
  clear hr
  generalize lo a = x at *
  generalize lo b = y at *
  generalize hc : (x ||| y) = z1 at *
  generalize hd : (x &&& (31 - y)) = z2 at *
  have HC := Lib.hid hc
  have HD := Lib.hid hd
  clear hc hd
  have E : r = if how = 0 then y else if how = 1 then z1 else if how = 2 then z2 else x := by rw [HR.out, chg, HC.out, HD.out]
  by_cases h0 : how = 0
  · subst h0
    simp only [if_pos] at E
    subst E
    go_enter Try.func7, Try.ntmps7
    go_wp2
    go_ret
    exact ⟨rfl, rfl⟩
  · by_cases h1 : how = 1
    · subst h1
      simp at E
      subst E
      go_enter Try.func7, Try.ntmps7
      go_wp2
      go_ret
      exact ⟨rfl, rfl⟩
    · by_cases h2 : how = 2
      · subst h2
        simp at E
        subst E
        go_enter Try.func7, Try.ntmps7
        go_wp2
        go_ret
        exact ⟨rfl, rfl⟩
      · rw [if_neg h0, if_neg h1, if_neg h2] at E
        subst E
        have t0 : (how == 0) = false := by simpa using h0
        have t1 : (how == 1) = false := by simpa using h1
        have t2 : (how == 2) = false := by simpa using h2
        clear h0 h1 h2
        go_enter Try.func7, Try.ntmps7
        go_wp2
        go_ret
        exact ⟨rfl, rfl⟩

set_option maxHeartbeats 4000000 in
theorem changed_any (a b how : Int) (w : World) :
    Calls Try.prog 8 #[.int .i64 a, .int .i64 b, .int .i64 how] w fun e w' => e = .returned (.int .i64 ((chg (lo a) (lo b) how : Nat) : Int)) ∧ w = w' := by
  rw [← sum_chg _ _ how (lo_lt a) (lo_lt b)]
  go_enter Try.func8, Try.ntmps8
  go_wp2
  go_loop [7, 8, 12] (fun n bt i => ∃ k : Nat, k ≤ 5 ∧ i = .int .i64 k ∧ n = .int .i64 ((sumTo (lo a) (lo b) how k : Nat) : Int) ∧ bt = .int .i64 ((2 ^ k : Nat) : Int)) (fun _ _ i => 5 - (intOf i).toNat)
  case atStart => exact ⟨0, by omega, rfl, rfl, rfl⟩
  case round =>
    obtain ⟨k, hk, rfl, rfl, rfl⟩ := hrel
    have hs := sum_lt (lo a) (lo b) how k
    by_cases hlt : k < 5
    · obtain ⟨p, q, hp, hq, hp2, hq2, hsum⟩ := round_cases (lo a) (lo b) k how
      have fa := bit_lo a k hlt
      have fb := bit_lo b k hlt
      rw [hp] at fa
      rw [hq] at fb
      obtain ⟨v, hv⟩ : ∃ v, v = 2 ^ k := ⟨_, rfl⟩
      have hv2 : v ≤ 16 := by rw [hv]; exact Nat.pow_le_pow_right (n := 2) (by decide) (show k ≤ 4 by omega)
      have hv3 : 2 ^ (k + 1) = v * 2 := by rw [hv, Nat.pow_succ]
      rw [← hv] at hs hsum ⊢
      have HV := Lib.hid hv3
      have HS := Lib.hid hsum
      generalize sumTo (lo a) (lo b) how k = S at *
      clear hp hq hv hv3 hsum
      have hcase : how = 0 ∨ how = 1 ∨ how = 2 ∨ how < 0 ∨ 2 < how := by omega
      rcases hcase with rfl | rfl | rfl | hc | hc
      all_goals rcases hp2 with rfl | rfl
      all_goals rcases hq2 with rfl | rfl
      all_goals
        try have t0 : (how == 0) = false := by rw [beq_eq_false_iff_ne]; omega
        try have t1 : (how == 1) = false := by rw [beq_eq_false_iff_ne]; omega
        try have t2 : (how == 2) = false := by rw [beq_eq_false_iff_ne]; omega
        try have t3 : decide (how < 0) = true := by rw [decide_eq_true_eq]; omega
        try have t3 : decide (how < 0) = false := by rw [decide_eq_false_iff_not]; omega
        try have t4 : decide (2 < how) = true := by rw [decide_eq_true_eq]; omega
        try have t4 : decide (2 < how) = false := by rw [decide_eq_false_iff_not]; omega
        go_wp2
        go_round
        case rel => exact ⟨k + 1, by omega, by go_num, by rw [HS.out]; (first | rw [oneB_0] | rw [oneB_1] | rw [oneB_2] | rw [oneB_neg hc] | rw [oneB_big hc]); simp, by rw [HV.out]; go_num⟩
        case measure => simp [intOf]; omega
    · obtain rfl : k = 5 := by omega
      go_wp2
      go_ret
      exact ⟨rfl, rfl⟩
end Go.Proofs.Ytigkjjbdbficnaa
