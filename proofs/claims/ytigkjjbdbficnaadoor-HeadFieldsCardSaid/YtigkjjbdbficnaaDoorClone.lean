/-
  bytes.Clone: the same bytes in new memory.
-/
import Derived.Test.YtigkjjbdbficnaaDoorOwn
namespace Go.Proofs.YtigkjjbdbficnaaDoor
open Go.RowKit

/-- What a clone leaves. -/
def Cloned (w : World) (n : Nat) (l : List Nat) (e : Ending) (w' : World) : Prop :=
  ∃ A' c', e = .returned (.slice A' n c') ∧ Own w' w.heap.size A' n c' l ∧ Below w.heap.size w w'

set_option maxHeartbeats 400000 in
theorem bclone (A : Option Addr) (n c : Nat) (l : List Nat) (w : World) (h : RB w A n l) (hn : n ≤ 500000) :
    Calls Tryd.prog 13 #[.slice A n c] w (Cloned w n l) := by
  have q := fun (w : World) (a : Option Addr) (n c : Nat) => Lib.run_eql_slice_nil (P := Tryd.prog) w 22 5 a n c 0 0 Tryd.underlying22
  rcases A with _ | ad
  · have h0 : n = 0 := by
      rcases Nat.eq_zero_or_pos n with h0 | h0
      · exact h0
      · obtain ⟨ad, e, _⟩ := h.2.2 h0
        cases e
    subst h0
    obtain rfl : l = [] := List.eq_nil_of_length_eq_zero h.1
    go_enter Tryd.func13, Tryd.ntmps13
    go_wp2
    go_ret
    exact ⟨none, 0, rfl, Own.nil _ _, Below.refl _ _⟩
  · have hown : Own (w.alloc (.cells #[] 5)) w.heap.size (some ⟨w.heap.size, 0, none⟩) 0 0 [] := Own.made w #[] 0 (Nat.le_refl _) (by unfold maxLen; omega) rfl
    have hr : RB (w.alloc (.cells #[] 5)) (some ad) n l := h.below ((Below.refl _ _).alloc (Nat.le_refl _) _)
    go_enter Tryd.func13, Tryd.ntmps13
    go_wp2_with (at_builtin; refine wpList_append_rb rfl _ _ rfl rfl rfl hown hr (by omega) (by simp) ?_; intro A' c' w1 hown1 honly hblk; simp only [Nat.zero_add, List.nil_append] at hown1; rw [Nat.zero_add])
    go_ret
    exact ⟨A', c', rfl, hown1, ((Below.refl _ _).alloc (Nat.le_refl _) _).trans (honly.below (by simp) (fun i hi e => by simp [blk] at e; omega))⟩
end Go.Proofs.YtigkjjbdbficnaaDoor
