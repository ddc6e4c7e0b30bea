/-
  The walks of the reference's Flag, Flags.
-/
import Derived.Test.YtigkjjbdbficnaaPrint
namespace Go.Proofs.Ytigkjjbdbficnaa
open Go.RowKit

set_option maxHeartbeats 400000 in
theorem flag_0 (w : World) : Calls Try.prog 9 #[.int .i64 0] w fun e w' => e = .returned (.string (NM.getD 0 ⟨#[]⟩)) ∧ w = w' := by
  have hi : ∀ w, (Instr.index 32 (.agg #[.string ⟨#[92, 83, 101, 101, 110]⟩, .string ⟨#[92, 65, 110, 115, 119, 101, 114, 101, 100]⟩, .string ⟨#[92, 70, 108, 97, 103, 103, 101, 100]⟩, .string ⟨#[92, 68, 101, 108, 101, 116, 101, 100]⟩, .string ⟨#[92, 68, 114, 97, 102, 116]⟩]) (.int .i64 0)).run Try.prog w = .ok (.string ⟨#[92, 83, 101, 101, 110]⟩) w := fun _ => by kernel_rfl
  go_enter Try.func9, Try.ntmps9
  go_wp2
  go_ret
  exact ⟨rfl, rfl⟩
set_option maxHeartbeats 400000 in
theorem flag_1 (w : World) : Calls Try.prog 9 #[.int .i64 1] w fun e w' => e = .returned (.string (NM.getD 1 ⟨#[]⟩)) ∧ w = w' := by
  have hi : ∀ w, (Instr.index 32 (.agg #[.string ⟨#[92, 83, 101, 101, 110]⟩, .string ⟨#[92, 65, 110, 115, 119, 101, 114, 101, 100]⟩, .string ⟨#[92, 70, 108, 97, 103, 103, 101, 100]⟩, .string ⟨#[92, 68, 101, 108, 101, 116, 101, 100]⟩, .string ⟨#[92, 68, 114, 97, 102, 116]⟩]) (.int .i64 1)).run Try.prog w = .ok (.string ⟨#[92, 65, 110, 115, 119, 101, 114, 101, 100]⟩) w := fun _ => by kernel_rfl
  go_enter Try.func9, Try.ntmps9
  go_wp2
  go_ret
  exact ⟨rfl, rfl⟩
set_option maxHeartbeats 400000 in
theorem flag_2 (w : World) : Calls Try.prog 9 #[.int .i64 2] w fun e w' => e = .returned (.string (NM.getD 2 ⟨#[]⟩)) ∧ w = w' := by
  have hi : ∀ w, (Instr.index 32 (.agg #[.string ⟨#[92, 83, 101, 101, 110]⟩, .string ⟨#[92, 65, 110, 115, 119, 101, 114, 101, 100]⟩, .string ⟨#[92, 70, 108, 97, 103, 103, 101, 100]⟩, .string ⟨#[92, 68, 101, 108, 101, 116, 101, 100]⟩, .string ⟨#[92, 68, 114, 97, 102, 116]⟩]) (.int .i64 2)).run Try.prog w = .ok (.string ⟨#[92, 70, 108, 97, 103, 103, 101, 100]⟩) w := fun _ => by kernel_rfl
  go_enter Try.func9, Try.ntmps9
  go_wp2
  go_ret
  exact ⟨rfl, rfl⟩
set_option maxHeartbeats 400000 in
theorem flag_3 (w : World) : Calls Try.prog 9 #[.int .i64 3] w fun e w' => e = .returned (.string (NM.getD 3 ⟨#[]⟩)) ∧ w = w' := by
  have hi : ∀ w, (Instr.index 32 (.agg #[.string ⟨#[92, 83, 101, 101, 110]⟩, .string ⟨#[92, 65, 110, 115, 119, 101, 114, 101, 100]⟩, .string ⟨#[92, 70, 108, 97, 103, 103, 101, 100]⟩, .string ⟨#[92, 68, 101, 108, 101, 116, 101, 100]⟩, .string ⟨#[92, 68, 114, 97, 102, 116]⟩]) (.int .i64 3)).run Try.prog w = .ok (.string ⟨#[92, 68, 101, 108, 101, 116, 101, 100]⟩) w := fun _ => by kernel_rfl
  go_enter Try.func9, Try.ntmps9
  go_wp2
  go_ret
  exact ⟨rfl, rfl⟩
set_option maxHeartbeats 400000 in
theorem flag_4 (w : World) : Calls Try.prog 9 #[.int .i64 4] w fun e w' => e = .returned (.string (NM.getD 4 ⟨#[]⟩)) ∧ w = w' := by
  have hi : ∀ w, (Instr.index 32 (.agg #[.string ⟨#[92, 83, 101, 101, 110]⟩, .string ⟨#[92, 65, 110, 115, 119, 101, 114, 101, 100]⟩, .string ⟨#[92, 70, 108, 97, 103, 103, 101, 100]⟩, .string ⟨#[92, 68, 101, 108, 101, 116, 101, 100]⟩, .string ⟨#[92, 68, 114, 97, 102, 116]⟩]) (.int .i64 4)).run Try.prog w = .ok (.string ⟨#[92, 68, 114, 97, 102, 116]⟩) w := fun _ => by kernel_rfl
  go_enter Try.func9, Try.ntmps9
  go_wp2
  go_ret
  exact ⟨rfl, rfl⟩
theorem flag_any (k : Nat) (hk : k < 5) (w : World) : Calls Try.prog 9 #[.int .i64 (k : Int)] w fun e w' => e = .returned (.string (NM.getD k ⟨#[]⟩)) ∧ w = w' := by
  have hcase : k = 0 ∨ k = 1 ∨ k = 2 ∨ k = 3 ∨ k = 4 := by omega
  rcases hcase with rfl | rfl | rfl | rfl | rfl
  · exact flag_0 w
  · exact flag_1 w
  · exact flag_2 w
  · exact flag_3 w
  · exact flag_4 w

/-- The reference's text, k rounds. -/
def refTo (x : Nat) : Nat → ByteArray
  | 0 => ⟨#[]⟩
  | k + 1 => if bitAt x k then (if (refTo x k).size = 0 then refTo x k else refTo x k ++ ⟨#[32]⟩) ++ NM.getD k ⟨#[]⟩ else refTo x k
def refd (x : Nat) : ByteArray := ⟨#[40]⟩ ++ refTo x 5 ++ ⟨#[41]⟩
theorem refd_eq : ∀ x < 32, refd x = printed x := by decide +kernel
theorem refTo_size : ∀ x < 32, ∀ k < 6, (refTo x k).size ≤ 60 := by decide +kernel
theorem nm_size : ∀ k < 5, (NM.getD k ⟨#[]⟩).size ≤ 9 := by decide
theorem toList_empty (s : ByteArray) (h : s.size = 0) : s.toList = [] := by
  rw [ByteArray.toList_eq]
  exact List.eq_nil_of_length_eq_zero (by rw [Array.length_toList]; exact h)
theorem toList_ne (s : ByteArray) (h : ¬ s.size = 0) : ¬ s.toList = [] := by
  rw [ByteArray.toList_eq]
  intro e
  apply h
  have := congrArg List.length e
  rw [Array.length_toList] at this
  exact this

set_option maxHeartbeats 1000000 in
theorem flags_any (a : Int) (w : World) : Calls Try.prog 12 #[.int .i64 a] w fun e w' => e = .returned (.string (printed (lo a))) ∧ w = w' := by
  have HP : Hid (printed (lo a) = ⟨#[40]⟩ ++ refTo (lo a) 5 ++ ⟨#[41]⟩) := (refd_eq (lo a) (lo_lt a)).symm
  go_enter Try.func12, Try.ntmps12
  go_wp2
  go_loop [3, 5] (fun v i => ∃ k : Nat, k ≤ 5 ∧ i = .int .i64 k ∧ v = .string (refTo (lo a) k)) (fun _ i => 5 - (intOf i).toNat)
  case atStart => exact ⟨0, by omega, rfl, rfl⟩
  case round =>
    obtain ⟨k, hk, rfl, rfl⟩ := hrel
    have hsz := refTo_size (lo a) (lo_lt a) k (by omega)
    by_cases hlt : k < 5
    · have fa := bit_lo a k hlt
      have hnm := nm_size k hlt
      have HS : Hid (refTo (lo a) (k + 1) = if bitAt (lo a) k then (if (refTo (lo a) k).size = 0 then refTo (lo a) k else refTo (lo a) k ++ ⟨#[32]⟩) ++ NM.getD k ⟨#[]⟩ else refTo (lo a) k) := rfl
      have HF := Lib.hid (fun w => flag_any k hlt w)
      obtain ⟨p, hp⟩ : ∃ p, p = lo a / 2 ^ k % 2 := ⟨_, rfl⟩
      rw [← hp] at fa
      have hp2 : p < 2 := by omega
      have hbt : bitAt (lo a) k = decide (p = 1) := by rw [hp]; rfl
      rw [hbt] at HS
      generalize refTo (lo a) k = R at *
      generalize NM.getD k ⟨#[]⟩ = N at *
      clear hp hbt
      by_cases h1 : p = 1
      · subst h1
        by_cases hr : R.size = 0
        · have hrt := toList_empty R hr
          have HR := Lib.hid hr
          clear hr
          go_wp2_with fail
          refine (HF.out w).mono ?_
          rintro e w1 ⟨rfl, rfl⟩
          go_wp2
          go_round
          case rel => exact ⟨k + 1, by omega, by go_num, by rw [HS.out, if_pos (by rfl), if_pos HR.out]⟩
          case measure => simp [intOf]; omega
        · have hrt := toList_ne R hr
          have hri : R.toList.isEmpty = false := by rw [List.isEmpty_eq_false_iff]; exact hrt
          have HR := Lib.hid hr
          clear hr
          go_wp2_with fail
          refine (HF.out w).mono ?_
          rintro e w1 ⟨rfl, rfl⟩
          go_wp2
          go_round
          case rel => exact ⟨k + 1, by omega, by go_num, by rw [HS.out, if_pos (by rfl), if_neg HR.out]⟩
          case measure => simp [intOf]; omega
      · have h0 : p = 0 := by omega
        subst h0
        go_wp2
        go_round
        case rel => exact ⟨k + 1, by omega, by go_num, by rw [HS.out]; rfl⟩
        case measure => simp [intOf]; omega
    · obtain rfl : k = 5 := by omega
      generalize refTo (lo a) 5 = R at *
      go_wp2
      go_ret
      exact ⟨by rw [HP.out]; rfl, rfl⟩
end Go.Proofs.Ytigkjjbdbficnaa
