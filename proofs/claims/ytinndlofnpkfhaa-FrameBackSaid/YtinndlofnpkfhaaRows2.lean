/-
  A slice of slices of bytes that came in.
-/
import Derived.Test.YtinndlofnpkfhaaSame
import Derived.Deep.Matrix
namespace Go.Proofs.Ytinndlofnpkfhaa
open Go.RowKit

/-- A slice of slices of bytes reads as the rows R. -/
def Rows2 (w : World) (A : Option Addr) (n : Nat) (R : List Entry) : Prop :=
  R.length = n ∧ (0 < n → ∃ ad, A = some ad ∧ ∀ j x, R[j]? = some x → w.cell? (ad.add j) = some (.slice x.A x.n x.c)) ∧ ∀ x ∈ R, RB w x.A x.n x.p
theorem Rows2.below {w w' : World} {A : Option Addr} {n : Nat} {R : List Entry} (h : Rows2 w A n R) (hb : Below w.heap.size w w') : Rows2 w' A n R := by
  refine ⟨h.1, fun h0 => ?_, fun x hx => (h.2.2 x hx).below hb⟩
  obtain ⟨ad, h1, h2⟩ := h.2.1 h0
  exact ⟨ad, h1, fun j x hx => cell_later hb (h2 j x hx)⟩
theorem Rows2.of {w : World} {a : Addr} {len cap : Nat} {A : Nat → Option Addr} {L C : Nat → Nat} {Z : Nat → List Int} (hl : len ≤ cap)
    (h : ∀ r, r < cap → w.cell? (a.add r) = some (.slice (A r) (L r) (C r)) ∧ L r ≤ C r ∧ C r ≤ maxLen ∧ (Z r).length = C r ∧ (∀ n ∈ Z r, (Lit.int .u8 n).wf = true) ∧ (A r = none → C r = 0) ∧
        ∀ a', A r = some a' → 0 ≤ a'.block ∧ ∀ c, c < C r → w.cell? (a'.add c) = some (.int .u8 ((Z r).getD c 0))) :
    Rows2 w (some a) len ((List.range len).map fun r => ⟨0, 0, A r, L r, C r, nats ((Z r).take (L r))⟩) := by
  refine ⟨by simp, fun _ => ⟨a, rfl, fun j x hx => ?_⟩, fun x hx => ?_⟩
  · have hj : j < len := by
      have := (List.getElem?_eq_some_iff.1 hx).1
      simpa using this
    rw [List.getElem?_map, List.getElem?_range hj] at hx
    simp only [Option.map_some, Option.some.injEq] at hx
    subst hx
    exact (h j (by omega)).1
  · obtain ⟨r, hr, rfl⟩ := List.mem_map.1 hx
    have hr' : r < cap := by have := List.mem_range.1 hr; omega
    obtain ⟨h1, h2, h3, h4, h5, h6, h7⟩ := h r hr'
    have hrow : IsRow .u8 w (A r) (L r) (C r) (Z r) := by
      cases hA : A r with
      | none =>
        have hc := h6 hA
        exact .inl ⟨rfl, by omega, hc, List.eq_nil_of_length_eq_zero (by rw [h4, hc])⟩
      | some x =>
        exact .inr ⟨x, rfl, h2, h3, h4, fun i hi => (h7 x hA).2 i (by rw [← h4]; exact hi), h5⟩
    exact RB.of_row hrow
theorem slice_h65 (A : Option Addr) (n c k : Nat) (hk : k ≤ c) (w : World) :
    (Instr.slice 65 (.slice A n c) none (some (.int .i64 (k : Int))) none).run Try.prog w = .ok (.slice A k c) w := by
  obtain ⟨i, hi, -, hz1, -⟩ := info_parts inf71
  have := run_slice_h (P := Try.prog) (w := w) 65 A n c (by kernel_rfl) .i64 k (by omega) (by omega)
  rw [this]
  have e : Try.prog.elem 65 = 71 := by kernel_rfl
  simp [sizeOf, typeInfo, e, hi, hz1, sliced]
  intro _
  cases A with
  | none => rfl
  | some a => simp [Addr.add]
end Go.Proofs.Ytinndlofnpkfhaa
