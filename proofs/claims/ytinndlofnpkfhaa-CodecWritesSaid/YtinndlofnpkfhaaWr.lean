/-
  What is put, in plain Lean; an Out and a row of bytes beside it.
-/
import Derived.Test.YtinndlofnpkfhaaFew
import Derived.Test.YtinndlofnpkfhaaNil
import Derived.Test.YtinndlofnpkfhaaPut
namespace Go.Proofs.Ytinndlofnpkfhaa
open Go.RowKit

def fits (x : Item) : Prop := 1 ≤ x.size ∧ x.size ≤ 7 ∧ 0 ≤ x.v ∧ x.v < 256 ^ x.size.toNat
def encI (x : Item) : List Nat := if x.kind < 3 then beb x.v.toNat x.size.toNat else if x.kind = 3 then beb x.p.length 2 ++ x.p else x.p
def goodI (x : Item) : Prop := (x.kind < 3 → fits x) ∧ (x.kind = 3 → x.p.length ≤ 65535)
def enc (R : List Item) : List Nat := R.flatMap encI
theorem enc_snoc (R : List Item) (x : Item) : enc (R ++ [x]) = enc R ++ encI x := by simp [enc]

theorem own_after_out {w w' : World} {g n4 c4 : Nat} {A A' A4 : Option Addr} {wl : List Nat} (hown : Own w (g + 1) A4 n4 c4 wl) (hd : ∀ k, blk A = some k → blk A4 ≠ some k) (ho : Only (OS g A) w w')
    (hbk : ∀ k, blk A' = some k → blk A = some k ∨ w.heap.size ≤ k) : Own w' (g + 1) A4 n4 c4 wl ∧ (∀ k, blk A' = some k → blk A4 ≠ some k) := by
  refine ⟨hown.only ho (fun k hk e => ?_), fun k hk h4 => ?_⟩
  · rcases e with e | e
    · have := (hown.lt k hk).1; omega
    · exact hd k e hk
  · rcases hbk k hk with h | h
    · exact hd k h h4
    · have := (hown.lt k h4).2; omega
theorem out_after_app {w w' : World} {g n c : Nat} {A A4 A5 : Option Addr} {l : List Nat} {sp : Bool} (hout : OutS w g (g + 1) A n c l sp) (hd : ∀ k, blk A = some k → blk A4 ≠ some k) (ho : Only (fun k => blk A4 = some k) w w')
    (hbk : blk A5 = blk A4 ∨ blk A5 = some w.heap.size) (hlt : ∀ k, blk A4 = some k → g + 1 ≤ k) : OutS w' g (g + 1) A n c l sp ∧ (∀ k, blk A = some k → blk A5 ≠ some k) := by
  refine ⟨hout.only ho (fun e => by have := hlt g e; omega) (fun k hk e => hd k hk e), fun k hk h5 => ?_⟩
  rcases hbk with h | h
  · exact hd k hk (by rw [← h]; exact h5)
  · rw [h] at h5
    injection h5 with h5
    have := (hout.2.lt k hk).2
    omega
end Go.Proofs.Ytinndlofnpkfhaa
