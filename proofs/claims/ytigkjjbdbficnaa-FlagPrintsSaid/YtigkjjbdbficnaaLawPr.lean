/-
  The walk of the law FlagPrints.
-/
import Derived.Test.YtigkjjbdbficnaaParse
import Derived.Test.YtigkjjbdbficnaaRefs
namespace Go.Proofs.Ytigkjjbdbficnaa
open Go.RowKit

theorem pick_back : ∀ x < 32, allSome (pick x 5) = true ∧ orOf (pick x 5) = x := by decide +kernel
theorem pick_small : ∀ x < 32, ∀ s ∈ pick x 5, s.size ≤ 1000000 := by decide +kernel

set_option maxHeartbeats 1000000 in
theorem flagPrints_walk (a : Int) (w : World) (_w0 : (Lit.int .i64 a).wf = true) :
    Calls Try.prog 4 #[.int .i64 a] w fun e w' => e = .returned (.bool true) ∧ Below w.heap.size w w' := by
  clear _w0
  have a31 := and31 a
  go_enter Try.func4, Try.ntmps4
  go_wp2_with fail
  refine (awake08 w).mono ?_
  rintro e w1 ⟨rfl, hb1⟩
  go_wp2_with fail
  go_loopw [3, 9] (fun v i wr => ∃ k : Nat, k ≤ 5 ∧ i = .int .i64 k ∧ ∃ A n c, v = .slice A n c ∧ OwnS wr w1.heap.size A n c (pick (lo a) k) ∧ Below w1.heap.size w1 wr) (fun _ i _ => 5 - (intOf i).toNat)
  case atStart => exact ⟨0, by omega, rfl, none, 0, 0, rfl, OwnS.nil _ _, Below.refl _ _⟩
  case round =>
    obtain ⟨k, hk, rfl, A, n, c, rfl, hown, hbr⟩ := hrel
    have hn : n ≤ 5 := by rw [← hown.1]; exact Nat.le_trans (pick_len _ _) hk
    have hsz2 := hbr.size
    have HB := Lib.hid hbr
    by_cases hlt : k < 5
    · have fa := bit_lo a k hlt
      obtain ⟨s, hs⟩ : ∃ s, s = NM.getD k ⟨#[]⟩ := ⟨_, rfl⟩
      have hpk : Hid (pick (lo a) (k + 1) = if bitAt (lo a) k then pick (lo a) k ++ [s] else pick (lo a) k) := by
        show _ = _
        rw [pick, hs]
      have HF := Lib.hid (fun w => flag_any k hlt w)
      rw [← hs] at HF
      obtain ⟨p, hp⟩ : ∃ p, p = lo a / 2 ^ k % 2 := ⟨_, rfl⟩
      rw [← hp] at fa
      have hp2 : p < 2 := by omega
      have hbt : bitAt (lo a) k = decide (p = 1) := by rw [hp]; rfl
      have HT := Lib.hid hbt
      clear hp hbt hs hbr
      by_cases h1 : p = 1
      · subst h1
        go_wp2_with fail
        refine (HF.out wr).mono ?_
        rintro e w2 ⟨rfl, rfl⟩
        go_wp2_with (at_builtin; refine wpList_append_s rfl _ _ rfl rfl rfl (hown.below ((Below.refl _ wr).alloc (Nat.le_refl _) (.cells #[.string s] 9))) (RS.new wr #[.string s] 9 (0, 0) [s] rfl) (by omega) (by omega) (by simp; omega) ?_; intro A2 c2 w2 hown2 hon2 hbk2)
        have hb2 : Below w1.heap.size w1 w2 := (HB.out.alloc hsz2 _).trans (hon2.below (by simp; omega) (fun i hi e => by have := (hown.lt i e).1; omega))
        go_roundw
        case rel => exact ⟨k + 1, by omega, by go_num, A2, n + 1, c2, rfl, by rw [hpk.out, HT.out]; exact hown2, hb2⟩
        case measure => simp [intOf]; omega
      · have h0 : p = 0 := by omega
        subst h0
        go_wp2
        go_roundw
        case rel => exact ⟨k + 1, by omega, by go_num, A, n, c, rfl, by rw [hpk.out, HT.out]; exact hown, HB.out⟩
        case measure => simp [intOf]; omega
    · obtain rfl : k = 5 := by omega
      obtain ⟨q1, q2⟩ := pick_back (lo a) (lo_lt a)
      have HP := Lib.hid (parse_any A n c (pick (lo a) 5) wr hown.read (by omega) (pick_small (lo a) (lo_lt a)))
      have HQ : Hid (∀ e, ParseR (pick (lo a) 5) e → e = .returned (.tuple #[.int .i64 ((lo a : Nat) : Int), .bool true])) := by
        show ∀ e, ParseR (pick (lo a) 5) e → e = .returned (.tuple #[.int .i64 ((lo a : Nat) : Int), .bool true])
        intro e he
        unfold ParseR at he
        rw [q1, q2] at he
        exact he
      clear hown hbr q1 q2
      go_wp2_with fail
      refine HP.out.mono ?_
      rintro e w2 ⟨he, hb3⟩
      obtain rfl := HQ.out e he
      have HB2 := Lib.hid (HB.out.trans (hb3.mono hsz2))
      clear he hb3
      go_wp2_with fail
      refine (print_any a w2).mono ?_
      rintro e w3 ⟨rfl, hb4⟩
      have HB3 := Lib.hid (HB2.out.trans (hb4.mono HB2.out.size))
      clear hb4
      go_wp2_with fail
      refine (flags_any a w3).mono ?_
      rintro e w4 ⟨rfl, rfl⟩
      go_wp2
      go_ret
      exact ⟨by simp, hb1.trans (HB3.out.mono hb1.size)⟩
end Go.Proofs.Ytigkjjbdbficnaa
