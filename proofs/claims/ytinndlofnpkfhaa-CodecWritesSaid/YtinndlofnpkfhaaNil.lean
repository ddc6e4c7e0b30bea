/-
  Package codec: a nil Out, a nil In; the statements' own 'awake' of layer 3.
-/
import Derived.Test.YtinndlofnpkfhaaRef
namespace Go.Proofs.Ytinndlofnpkfhaa
open Go.RowKit

set_option maxHeartbeats 400000 in
theorem awake03 (w : World) : Calls Try.prog 19 #[] w fun e w' => e = .returned (.bool true) ∧ Below w.heap.size w w' := by
  have hO : OutS (w.alloc (.cells #[.slice none 0 0, .bool false] 40)) w.heap.size (w.heap.size + 1) none 0 0 [] false := ⟨heap_alloc_new w _, Own.nil _ _⟩
  go_enter Try.func19, Try.ntmps19
  go_wp2_with fail
  refine (out_n_loop w.heap.size (w.heap.size + 1) none 0 0 [] false 258 3 _ hO (by simp) (by omega) (by omega) (by decide) (by omega)).mono ?_
  rintro e w1 ⟨A1, n1, c1, rfl, h1, ho1, hb1⟩
  have hn1 : n1 = 3 := h1.2.1.symm
  subst hn1
  have hb : Below w.heap.size w w1 := ((Below.refl _ w).alloc (Nat.le_refl _) _).trans (ho1.below (by simp) (fun i hi e => by
    rcases e with e | e
    · omega
    · simp [blk] at e))
  clear ho1 hb1
  go_wp2_with fail
  refine (out_end w.heap.size (w.heap.size + 1) A1 3 c1 _ w1 h1 (by omega)).mono ?_
  rintro e w2 ⟨A2, n2, c2, rfl, hown, hb2⟩
  have hconv := conv_rb hown.read c2
  have hs : str ([] ++ beb 258 3) = ⟨#[0, 1, 2]⟩ := by decide
  rw [hs] at hconv
  have hb' := hb.trans (hb2.mono hb.size)
  clear hown hs hb hb2 h1
  go_wp2
  go_ret
  exact ⟨rfl, hb'⟩

set_option maxHeartbeats 400000 in
theorem nil_out_n (v s : Int) (w : World) : Calls Try.prog 28 #[.pointer none, .int .i64 v, .int .i64 s] w fun e w' => e = .returned (.tuple #[]) ∧ w = w' := by
  go_enter Try.func28, Try.ntmps28
  go_wp2
  refine bodyPost_ret (results_none rfl _ _ _) rfl ⟨rfl, rfl⟩

set_option maxHeartbeats 400000 in
theorem nil_out_raw (v : Value) (w : World) : Calls Try.prog 32 #[.pointer none, v] w fun e w' => e = .returned (.tuple #[]) ∧ w = w' := by
  go_enter Try.func32, Try.ntmps32
  go_wp2
  go_end0
  exact ⟨rfl, rfl⟩

set_option maxHeartbeats 400000 in
theorem nil_out_text (s : ByteArray) (w : World) : Calls Try.prog 30 #[.pointer none, .string s] w fun e w' => e = .returned (.tuple #[]) ∧ Below w.heap.size w w' := by
  have hrb := run_bytes s
  go_enter Try.func30, Try.ntmps30
  go_wp2_with fail
  refine (nil_out_n _ _ w).mono ?_
  rintro e w1 ⟨rfl, rfl⟩
  go_wp2_with fail
  refine (nil_out_raw _ _).mono ?_
  rintro e w1 ⟨rfl, rfl⟩
  go_wp2
  go_end0
  exact ⟨rfl, (Below.refl _ w).drew.alloc (Nat.le_refl _) _⟩

set_option maxHeartbeats 400000 in
theorem nil_out_end (w : World) : Calls Try.prog 33 #[.pointer none] w fun e w' => e = .returned (.tuple #[.slice none 0 0, .int .i64 1]) ∧ w = w' := by
  go_enter Try.func33, Try.ntmps33
  go_wp2
  go_ret2
  exact ⟨rfl, rfl⟩

set_option maxHeartbeats 400000 in
theorem nil_take (n : Int) (w : World) : Calls Try.prog 50 #[.pointer none, .int .i64 n] w fun e w' => e = .returned (.slice none 0 0) ∧ w = w' := by
  go_enter Try.func50, Try.ntmps50
  go_wp2
  go_ret
  exact ⟨rfl, rfl⟩

set_option maxHeartbeats 400000 in
theorem nil_in_n (s : Int) (w : World) : Calls Try.prog 22 #[.pointer none, .int .i64 s] w fun e w' => e = .returned (.int .i64 0) ∧ w = w' := by
  have hcase : s < 1 ∨ (1 ≤ s ∧ s ≤ 7) ∨ (1 ≤ s ∧ 7 < s) := by omega
  rcases hcase with h1 | ⟨h1, h2⟩ | ⟨h1, h2⟩
  all_goals
    go_enter Try.func22, Try.ntmps22
    go_wp2_with fail
    refine (nil_take _ w).mono ?_
    rintro e w1 ⟨rfl, rfl⟩
    go_wp2
    refine wp_loop_rounds 1 ?_
    rw [rounds_succ]
    go_wp2
    go_ret
    exact ⟨rfl, rfl⟩

set_option maxHeartbeats 400000 in
theorem nil_in_text (w : World) : Calls Try.prog 34 #[.pointer none] w fun e w' => e = .returned (.string ⟨#[]⟩) ∧ w = w' := by
  have hconv := fun w => conv_rb (RB.nil w none) 0
  go_enter Try.func34, Try.ntmps34
  go_wp2_with fail
  refine (nil_in_n _ w).mono ?_
  rintro e w1 ⟨rfl, rfl⟩
  go_wp2_with fail
  refine (nil_take _ w).mono ?_
  rintro e w1 ⟨rfl, rfl⟩
  go_wp2
  go_ret
  exact ⟨rfl, rfl⟩

set_option maxHeartbeats 400000 in
theorem nil_in_raw (n : Int) (w : World) : Calls Try.prog 24 #[.pointer none, .int .i64 n] w fun e w' => (∃ A c, e = .returned (.slice A 0 c)) ∧ Below w.heap.size w w' := by
  go_enter Try.func24, Try.ntmps24
  go_wp2_with fail
  refine (nil_take _ w).mono ?_
  rintro e w1 ⟨rfl, rfl⟩
  go_wp2_with fail
  refine (bclone none 0 0 [] w (RB.nil w none) (by omega)).mono ?_
  rintro e w1 ⟨A, c, rfl, hown, hb⟩
  go_wp2
  go_ret
  exact ⟨⟨A, c, rfl⟩, hb⟩

set_option maxHeartbeats 400000 in
theorem nil_in_bad (w : World) : Calls Try.prog 25 #[.pointer none] w fun e w' => e = .returned (.bool false) ∧ w = w' := by
  go_enter Try.func25, Try.ntmps25
  go_wp2
  go_ret
  exact ⟨rfl, rfl⟩
set_option maxHeartbeats 400000 in
theorem nil_in_left (w : World) : Calls Try.prog 26 #[.pointer none] w fun e w' => e = .returned (.int .i64 0) ∧ w = w' := by
  go_enter Try.func26, Try.ntmps26
  go_wp2
  go_ret
  exact ⟨rfl, rfl⟩
set_option maxHeartbeats 400000 in
theorem nil_in_done (w : World) : Calls Try.prog 27 #[.pointer none] w fun e w' => e = .returned (.bool false) ∧ w = w' := by
  go_enter Try.func27, Try.ntmps27
  go_wp2
  go_ret
  exact ⟨rfl, rfl⟩
end Go.Proofs.Ytinndlofnpkfhaa
