/-
  The statements' own 'same': two slices of alike records.
-/
import Derived.Test.YtinndlofnpkfhaaRcs
import Derived.Test.YtinndlofnpkfhaaStr
import Derived.Test.YtinndlofnpkfhaaArr
import Derived.BigQuiet
import Derived.Deep.QuietTactic
namespace Go.Proofs.Ytinndlofnpkfhaa
open Go.RowKit

theorem RB.heap {w w' : World} {A : Option Addr} {n : Nat} {l : List Nat} (h : RB w A n l) (e : w'.heap = w.heap) : RB w' A n l :=
  ⟨h.1, h.2.1, fun h0 => by
    obtain ⟨ad, h1, h2⟩ := h.2.2 h0
    exact ⟨ad, h1, fun j x hj => by rw [World.cell?_of_block (w := w) (by rw [e])]; exact h2 j x hj⟩⟩
theorem RecsR.heap {w w' : World} {A : Option Addr} {n : Nat} {es : List Entry} (h : RecsR w A n es) (e : w'.heap = w.heap) : RecsR w' A n es := by
  refine ⟨h.1, fun h0 => ?_, fun x hx => (h.2.2 x hx).heap e⟩
  obtain ⟨g, h1, h2⟩ := h.2.1 h0
  refine ⟨g, h1, fun j x hx => ?_⟩
  obtain ⟨a, b, c⟩ := h2 j x hx
  exact ⟨by rw [World.cell?_of_block (w := w) (by rw [e])]; exact a, by rw [World.cell?_of_block (w := w) (by rw [e])]; exact b, by rw [World.cell?_of_block (w := w) (by rw [e])]; exact c⟩
theorem RecsR.below {w w' : World} {A : Option Addr} {n : Nat} {es : List Entry} (h : RecsR w A n es) (hb : Below w.heap.size w w') : RecsR w' A n es := by
  refine ⟨h.1, fun h0 => ?_, fun x hx => (h.2.2 x hx).below hb⟩
  obtain ⟨g, h1, h2⟩ := h.2.1 h0
  refine ⟨g, h1, fun j x hx => ?_⟩
  obtain ⟨a, b, c⟩ := h2 j x hx
  exact ⟨cell_later hb a, cell_later hb b, cell_later hb c⟩

theorem Recs.max {w : World} {base : Nat} {T : TypeId} {A : Option Addr} {n c : Nat} {es : List Entry} (h : Recs w base T A n c es) : n ≤ maxLen := by
  rcases h.2.1.2 with ⟨hv, rfl⟩ | ⟨g, cap, cur, hv, _, _, hle, hmx, _⟩
  · exact Nat.zero_le _
  · exact Nat.le_trans hle hmx

set_option maxRecDepth 8000 in
set_option maxHeartbeats 1000000 in
theorem same_any (A : Option Addr) (n c : Nat) (B : Option Addr) (m d : Nat) (es fs : List Entry) (w : World) (h1 : RecsR w A n es) (h2 : RecsR w B m fs) (he : es.map Entry.rec_ = fs.map Entry.rec_) (hmx : n ≤ maxLen) :
    Calls Try.prog 47 #[.slice A n c, .slice B m d] w fun e w' => e = .returned (.bool true) ∧ Below w.heap.size w w' := by
  have hmn : m = n := by
    have := congrArg List.length he
    rw [List.length_map, List.length_map, h1.1, h2.1] at this
    exact this.symm
  subst hmn
  unfold maxLen at hmx
  have H1 := Lib.hid h1
  have H2 := Lib.hid h2
  have HE := Lib.hid he
  clear h1 h2 he
  go_enter Try.func47, Try.ntmps47
  go_wp2
  go_loopw [13] (fun v wr => ∃ i : Nat, i ≤ m ∧ v = .int .i64 (i : Int) ∧ wr.heap = w.heap ∧ Below w.heap.size w wr) (fun v _ => m - (intOf v).toNat)
  case atStart => exact ⟨0, Nat.zero_le _, rfl, rfl, Below.refl _ _⟩
  case round =>
    obtain ⟨i, hi, rfl, hh, hB⟩ := hrel
    by_cases him : i < m
    · have him' : (i : Int) < (m : Int) := by omega
      have r1 := H1.out.heap hh
      have r2 := H2.out.heap hh
      have l1 := r1.1
      have l2 := r2.1
      obtain ⟨e, hge⟩ : ∃ e, es[i]? = some e := ⟨_, List.getElem?_eq_getElem (by omega)⟩
      obtain ⟨f, hgf⟩ : ∃ f, fs[i]? = some f := ⟨_, List.getElem?_eq_getElem (by omega)⟩
      have hrec : e.rec_ = f.rec_ := by
        have := congrArg (fun l => l[i]?) HE.out
        simp only [List.getElem?_map, hge, hgf, Option.map_some, Option.some.injEq] at this
        exact this
      obtain ⟨g, rfl, hc1⟩ := r1.2.1 (by omega)
      obtain ⟨g', rfl, hc2⟩ := r2.2.1 (by omega)
      obtain ⟨a1, a2, a3⟩ := hc1 i e hge
      obtain ⟨b1, b2, b3⟩ := hc2 i f hgf
      have p1 := r1.2.2 e (List.mem_of_getElem? hge)
      have p2 := r2.2.2 f (List.mem_of_getElem? hgf)
      obtain ⟨i0, k0, A0, n0, c0, p⟩ := e
      obtain ⟨i1, k1, B0, m0, d0, p'⟩ := f
      simp only [Entry.rec_, Prod.mk.injEq] at hrec
      obtain ⟨rfl, rfl, rfl⟩ := hrec
      have q1 : ∀ q : Nat, (convert 22 9 (.slice A0 n0 c0)).run Try.prog (wr.drewN q) = .ok (.string (str p)) (wr.drewN q) := fun q => conv_rb (w := wr.drewN q) p1 c0
      have q2 : ∀ q : Nat, (convert 22 9 (.slice B0 m0 d0)).run Try.prog (wr.drewN q) = .ok (.string (str p)) (wr.drewN q) := fun q => conv_rb (w := wr.drewN q) p2 d0
      simp only at a1 a2 a3 b1 b2 b3
      have HH := Lib.hid hh
      have HB := Lib.hid hB
      clear r1 r2 l1 l2 hge hgf hc1 hc2 p1 p2 hh hB
      go_wp2_with fail
      go_quiet (fail)
      have hB2 := Below.dn HB.out nq
      have hh2 : (wr.drewN nq).heap = w.heap := HH.out
      have HB2 := Lib.hid hB2
      have HH2 := Lib.hid hh2
      clear hB2 hh2 q1 q2 a1 a2 a3 b1 b2 b3
      go_wp2
      go_roundw
      case rel => exact ⟨i + 1, him, by go_num, HH2.out, HB2.out⟩
      case measure => simp [intOf]; omega
    · clear hh
      go_wp2
      go_ret
      exact ⟨rfl, hB⟩
end Go.Proofs.Ytinndlofnpkfhaa
