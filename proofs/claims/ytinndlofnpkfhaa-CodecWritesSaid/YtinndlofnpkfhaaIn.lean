/-
  Package codec, type In: what each method does, over a plain state: the bytes that are left, and whether it is bad.
-/
import Derived.Test.YtinndlofnpkfhaaClone
namespace Go.Proofs.Ytinndlofnpkfhaa
open Go.RowKit

/-- The state of an In. -/
structure InM where
  l : List Nat
  bad : Bool
def InM.ok (i : InM) (n : Int) : Bool := !i.bad && decide (0 ≤ n) && decide (n ≤ i.l.length)
def InM.got (i : InM) (n : Int) : List Nat := if i.ok n then i.l.take n.toNat else []
def InM.rest (i : InM) (n : Int) : InM := if i.ok n then ⟨i.l.drop n.toNat, false⟩ else ⟨[], true⟩

/-- Block g is an In in state i. -/
def InS (w : World) (g : Nat) (i : InM) : Prop :=
  ∃ A n c, w.heap[g]? = some (.cells #[.slice A n c, .bool i.bad] 77 (0, 0)) ∧ RB w A n i.l ∧ n ≤ c ∧ (i.bad = true → i.l = [])

theorem InS.below {w w' : World} {g : Nat} {i : InM} (h : InS w g i) (hb : Below w.heap.size w w') : InS w' g i := by
  obtain ⟨A, n, c, h1, h2, h3, h4⟩ := h
  exact ⟨A, n, c, (hb.block g (Array.getElem?_eq_some_iff.1 h1).1).trans h1, h2.below hb, h3, h4⟩

def NewIn (w : World) (l : List Nat) (e : Ending) (w' : World) : Prop :=
  ∃ g, e = .returned (.pointer (some ⟨g, 0, none⟩)) ∧ w.heap.size ≤ g ∧ InS w' g ⟨l, false⟩ ∧ Below w.heap.size w w'

set_option maxHeartbeats 400000 in
theorem newIn (A : Option Addr) (n c : Nat) (l : List Nat) (w : World) (h : RB w A n l) (hn : n ≤ 500000) :
    Calls Try.prog 21 #[.slice A n c] w (NewIn w l) := by
  go_enter Try.func21, Try.ntmps21
  go_wp2_with fail
  refine (bclone _ _ _ l _ h hn).mono ?_
  rintro e w1 ⟨A', c', rfl, hown, hb⟩
  go_wp2
  go_ret
  refine ⟨w1.heap.size, rfl, hb.size, ⟨A', n, c', heap_alloc_new _ _, (hown.read).below ((Below.refl _ _).alloc (Nat.le_refl _) _), hown.le, by simp⟩, hb.alloc hb.size _⟩

def Took (w : World) (g : Nat) (i : InM) (n : Int) (e : Ending) (w' : World) : Prop :=
  ∃ A m c, e = .returned (.slice A m c) ∧ m ≤ c ∧ RB w' A m (i.got n) ∧ InS w' g (i.rest n) ∧ Only (fun k => k = g) w w'

set_option maxHeartbeats 400000 in
theorem take_any (g : Nat) (i : InM) (n : Int) (w : World) (h : InS w g i) :
    Calls Try.prog 50 #[.pointer (some ⟨g, 0, none⟩), .int .i64 n] w (Took w g i n) := by
  obtain ⟨A, m, c, hg, hr, hc, hb⟩ := h
  have hlt := (Array.getElem?_eq_some_iff.1 hg).1
  have c0 : w.cell? ⟨g, 0, none⟩ = some (.slice A m c) := cell_of_row w g 0 _ _ _ hg
  have c1 : w.cell? ⟨g, 1, none⟩ = some (.bool i.bad) := cell_of_row w g 1 _ _ _ hg
  obtain ⟨l, bad⟩ := i
  simp only at hr hb c1
  have f0 : w.frozen? ⟨g, 0, none⟩ = false := by simp [World.frozen?, hg]
  have f1 : w.frozen? ⟨g, 1, none⟩ = false := by simp [World.frozen?, hg]
  have hml := hr.1
  have hne : ∀ (j : Nat) (x : Int), (#[.slice A m c, .bool bad] : Array Value)[j]? ≠ some (.int .u8 x) := by
    intro j x
    rcases j with _ | _ | j <;> simp
  cases bad
  · by_cases h0 : n < 0
    · have HR := Lib.hid hr
      clear hr
      have e1 : (InM.mk l false).ok n = false := by simp [InM.ok]; omega
      go_enter Try.func50, Try.ntmps50
      go_wp2
      go_ret
      have hW := blk_set (blk_set hg 0 (.slice none 0 0)) 1 (.bool true)
      refine ⟨none, 0, 0, rfl, Nat.le_refl _, ?_, ⟨none, 0, 0, ?_, ?_, Nat.le_refl _, ?_⟩, ((only_set w g 0 _).setCell (.inl rfl) _)⟩
      · rw [InM.got, e1]; exact RB.nil _ _
      · rw [InM.rest, e1]; exact hW
      · rw [InM.rest, e1]; exact RB.nil _ _
      · rw [InM.rest, e1]; intro _; rfl
    · obtain ⟨k, rfl⟩ := Int.eq_ofNat_of_zero_le (Int.not_lt.1 h0)
      by_cases hk : k ≤ m
      · have e1 : (InM.mk l false).ok k = true := by simp [InM.ok]; omega
        have HR := Lib.hid hr
        have HG := Lib.hid hg
        clear hr hg
        have hrun := slice_l A m c k hk
        go_enter Try.func50, Try.ntmps50
        go_wp2
        go_ret
        have hW := blk_set HG.out 0 (.slice (cut A c k) (m - k) (c - k))
        have ho := only_set w g 0 (.slice (cut A c k) (m - k) (c - k))
        have hR' := HR.out.store HG.out hne ho
        refine ⟨A, k, c, rfl, by omega, ?_, ⟨cut A c k, m - k, c - k, ?_, ?_, by omega, ?_⟩, ho⟩
        · rw [InM.got, e1]; exact hR'.take hk
        · rw [InM.rest, e1]; exact hW
        · rw [InM.rest, e1]; exact hR'.drop hk hc
        · rw [InM.rest, e1]; intro hh; cases hh
      · have e1 : (InM.mk l false).ok k = false := by simp [InM.ok]; omega
        have HR := Lib.hid hr
        clear hr
        go_enter Try.func50, Try.ntmps50
        go_wp2
        go_ret
        have hW := blk_set (blk_set hg 0 (.slice none 0 0)) 1 (.bool true)
        refine ⟨none, 0, 0, rfl, Nat.le_refl _, ?_, ⟨none, 0, 0, ?_, ?_, Nat.le_refl _, ?_⟩, ((only_set w g 0 _).setCell (.inl rfl) _)⟩
        · rw [InM.got, e1]; exact RB.nil _ _
        · rw [InM.rest, e1]; exact hW
        · rw [InM.rest, e1]; exact RB.nil _ _
        · rw [InM.rest, e1]; intro _; rfl
  · obtain rfl : l = [] := hb rfl
    have HR := Lib.hid hr
    clear hr
    have e1 : (InM.mk [] true).ok n = false := by simp [InM.ok]
    go_enter Try.func50, Try.ntmps50
    go_wp2
    go_ret
    refine ⟨none, 0, 0, rfl, Nat.le_refl _, ?_, ⟨A, m, c, ?_, ?_, hc, ?_⟩, Only.refl _ _⟩
    · rw [InM.got, e1]; exact RB.nil _ _
    · rw [InM.rest, e1]; exact hg
    · rw [InM.rest, e1]; exact HR.out
    · rw [InM.rest, e1]; intro _; rfl
end Go.Proofs.Ytinndlofnpkfhaa
