/-
  A slice of items that came in: what it reads as.
-/
import Derived.Test.YtinndlofnpkfhaaSame
import Derived.Deep.Slices
import Derived.Lib.SmallJoins
import Derived.OpenShut
import Derived.SizedLaws
namespace Go.Proofs.Ytinndlofnpkfhaa
open Go.RowKit
open Go.ChangeShapes Go.WideShapes Go.ChangeAt

structure Item where
  kind : Int
  v : Int
  size : Int
  A : Option Addr
  n : Nat
  c : Nat
  p : List Nat
def Item.wf (x : Item) : Prop := (Lit.int .u8 x.kind).wf = true ∧ (Lit.int .i64 x.v).wf = true ∧ (Lit.int .i64 x.size).wf = true
/-- A slice of items reads as R. -/
def Items (w : World) (A : Option Addr) (n : Nat) (R : List Item) : Prop :=
  R.length = n ∧ (0 < n → ∃ ad, A = some ad ∧ ∀ j x, R[j]? = some x → w.cell? (ad.add (j * 4)) = some (.int .u8 x.kind) ∧ w.cell? (ad.add (j * 4 + 1)) = some (.int .i64 x.v) ∧ w.cell? (ad.add (j * 4 + 2)) = some (.int .i64 x.size) ∧ w.cell? (ad.add (j * 4 + 3)) = some (.slice x.A x.n x.c))
    ∧ ∀ x ∈ R, x.wf ∧ x.n ≤ x.c ∧ x.n ≤ 140737488355328 ∧ RB w x.A x.n x.p
theorem Items.below {w w' : World} {A : Option Addr} {n : Nat} {R : List Item} (h : Items w A n R) (hb : Below w.heap.size w w') : Items w' A n R := by
  refine ⟨h.1, fun h0 => ?_, fun x hx => ⟨(h.2.2 x hx).1, (h.2.2 x hx).2.1, (h.2.2 x hx).2.2.1, (h.2.2 x hx).2.2.2.below hb⟩⟩
  obtain ⟨ad, h1, h2⟩ := h.2.1 h0
  refine ⟨ad, h1, fun j x hx => ?_⟩
  obtain ⟨a, b, c, d⟩ := h2 j x hx
  exact ⟨cell_later hb a, cell_later hb b, cell_later hb c, cell_later hb d⟩

theorem Items.at_ {w : World} {A : Option Addr} {n : Nat} {R : List Item} (h : Items w A n R) {i : Nat} (hi : i < n) :
    ∃ ad x, A = some ad ∧ R[i]? = some x ∧ w.cell? (ad.add (i * 4)) = some (.int .u8 x.kind) ∧ w.cell? ⟨(ad.add (i * 4)).block, (ad.add (i * 4)).off + 1, none⟩ = some (.int .i64 x.v) ∧
      w.cell? ⟨(ad.add (i * 4)).block, (ad.add (i * 4)).off + 2, none⟩ = some (.int .i64 x.size) ∧ w.cell? ⟨(ad.add (i * 4)).block, (ad.add (i * 4)).off + 3, none⟩ = some (.slice x.A x.n x.c) ∧
      x.wf ∧ x.n ≤ x.c ∧ x.n ≤ 140737488355328 ∧ RB w x.A x.n x.p := by
  obtain ⟨x, hx⟩ : ∃ x, R[i]? = some x := ⟨_, List.getElem?_eq_getElem (by rw [h.1]; exact hi)⟩
  obtain ⟨ad, rfl, hc⟩ := h.2.1 (by omega)
  obtain ⟨c0, c1, c2, c3⟩ := hc i x hx
  rw [← Go.Deep.add_add] at c1 c2 c3
  exact ⟨ad, x, rfl, hx, c0, c1, c2, c3, h.2.2 x (List.mem_of_getElem? hx)⟩

theorem und27 : Try.prog.underlying 27 = some (.slice 32) := by kernel_rfl
theorem fields32 : (Try.prog.underlying 32).map (fun d => match d with | .struct fs => fs.toList.map (fun f => (f.type, f.offset)) | _ => []) = some [(5, 0), (2, 1), (3, 2), (22, 3)] := by kernel_rfl
theorem und32 : ∃ f0 f1 f2 f3 : Field, Try.prog.underlying 32 = some (.struct #[f0, f1, f2, f3]) ∧ (f0.type = 5 ∧ f0.offset = 0) ∧ (f1.type = 2 ∧ f1.offset = 1) ∧ (f2.type = 3 ∧ f2.offset = 2) ∧ (f3.type = 22 ∧ f3.offset = 3) := by
  have h := fields32
  cases hu : Try.prog.underlying 32 with
  | none => rw [hu] at h; cases h
  | some d =>
    rw [hu] at h
    cases d
    case struct fs =>
      obtain ⟨l⟩ := fs
      match l, h with
      | [f0, f1, f2, f3], h =>
        simp at h
        exact ⟨f0, f1, f2, f3, rfl, h.1, h.2.1, h.2.2.1, h.2.2.2⟩
    all_goals simp at h

theorem weightsAll_mem' {H : Type} {P : Program} {e : TypeId} : ∀ {l : List (DataW H)} {d : DataW H}, d ∈ l → ∀ n ∈ d.weights P e, n ∈ DataW.weightsAll P e l
  | d' :: r, d, hd, n, hn => by
    simp only [DataW.weightsAll, List.mem_append]
    rcases List.mem_cons.1 hd with rfl | h
    · exact Or.inl hn
    · exact Or.inr (weightsAll_mem' h n hn)

section
variable {H : Type} {enc : TypeId × Value → H} {w : World} {base : Nat} {held : Bool}

theorem open_items {fuel : Nat} {cs : List Value} {x : DataW H × List MemPlace} (h : DataW.trod enc Try.prog w base (fun _ => true) held fuel 27 cs = some x) (hw : ∀ m ∈ x.1.weights Try.prog 27, m ≤ reachBytes) :
    cs = [.slice none 0 0] ∨ ∃ (a : Addr) (len cap : Nat) (R : List Item), cs = [.slice (some a) len cap] ∧ Items w (some a) len R := by
  rcases Go.Deep.open_slice und27 h with ⟨h0, _⟩ | ⟨a, len, cap, m, n, D, Pl, rfl, hb, hl, hm, hmm, rfl, hx⟩
  · exact .inl h0
  right
  obtain ⟨f0, f1, f2, f3, hu, ⟨t0, o0⟩, ⟨t1, o1⟩, ⟨t2, o2⟩, ⟨t3, o3⟩⟩ := und32
  have c4 : Try.prog.cellsOf 32 = 4 := by kernel_rfl
  have c5 : Try.prog.cellsOf 5 = 1 := by kernel_rfl
  have c2 : Try.prog.cellsOf 2 = 1 := by kernel_rfl
  have c3 : Try.prog.cellsOf 3 = 1 := by kernel_rfl
  have c22 : Try.prog.cellsOf 22 = 1 := by kernel_rfl
  have u2 : Try.prog.underlying 2 = some (.int .i64) := by kernel_rfl
  have each : ∀ i, i < len → ∃ y : Item, (w.cell? (a.add (i * 4)) = some (.int .u8 y.kind) ∧ w.cell? (a.add (i * 4 + 1)) = some (.int .i64 y.v) ∧ w.cell? (a.add (i * 4 + 2)) = some (.int .i64 y.size) ∧ w.cell? (a.add (i * 4 + 3)) = some (.slice y.A y.n y.c)) ∧
      y.wf ∧ y.n ≤ y.c ∧ y.n ≤ 140737488355328 ∧ RB w y.A y.n y.p := by
    intro i hi
    obtain ⟨cs', h1, h2⟩ := hx i (by simp only [if_true] at hmm; omega)
    rw [c4] at h1
    obtain ⟨_, hlen, hcell⟩ := World.cells?_some h1
    obtain ⟨y0, y1, y2, y3, k, hy, hlen2, g0, g1, g2, g3⟩ := Go.Joins.trod_struct4 hu h2
    match cs', hlen with
    | [v0, v1, v2, v3], _ =>
      simp [t0, o0, t1, o1, t2, o2, t3, o3, c5, c2, c3, c22] at g0 g1 g2 g3
      obtain ⟨n0, e0, hd0, wf0⟩ := DataW.trod_int Try.underlying5 g0
      obtain ⟨n1, e1, hd1, wf1⟩ := DataW.trod_int u2 g1
      obtain ⟨n2, e2, hd2, wf2⟩ := DataW.trod_int Try.underlying3 g2
      simp only [List.cons.injEq, and_true] at e0 e1 e2
      subst e0 e1 e2
      have q0 := hcell 0 (by decide)
      have q1 := hcell 1 (by decide)
      have q2 := hcell 2 (by decide)
      have q3 := hcell 3 (by decide)
      rw [Go.Deep.add_add] at q0 q1 q2 q3
      simp only [Nat.add_zero, List.getElem?_cons_zero, List.getElem?_cons_succ] at q0 q1 q2 q3
      have hDi : D i = .agg [y0.1, y1.1, y2.1, y3.1] := by
        have := congrArg Prod.fst hy
        exact this
      rcases open_ints Try.underlying22 Try.underlying5 c5 g3 with ⟨hcs, _⟩ | ⟨x', l', c', zs, hcs, _, hl', hm', hz, hy3, hcl, hwz⟩
      · simp only [List.cons.injEq, and_true] at hcs
        subst hcs
        exact ⟨⟨n0, n1, n2, none, 0, 0, []⟩, ⟨q0, q1, q2, q3⟩, ⟨wf0, wf1, wf2⟩, Nat.le_refl _, Nat.zero_le _, RB.nil _ _⟩
      · simp only [List.cons.injEq, and_true] at hcs
        subst hcs
        simp only [if_true] at hz
        have hrow : IsRow .u8 w (some x') l' c' zs := .inr ⟨x', rfl, hl', hm', hz, hcl, hwz⟩
        have hbig : l' ≤ reachBytes := by
          have hy3' : y3.1 = .slice (lits .u8 (zs.take l')) (lits .u8 (zs.drop l')) := by rw [hy3]
          have hm1 : ((lits (H := H) .u8 (zs.take l')).length + (lits (H := H) .u8 (zs.drop l')).length) * Try.prog.bytesOf 5 ∈ (D i).weights Try.prog 32 := by
            rw [hDi, hy3']
            simp only [DataW.weights, hu]
            simp [DataW.weightsEach, t0, t1, t2, t3, DataW.weights, Try.underlying22]
          have hm2 := weightsAll_mem' (P := Try.prog) (e := 32) (l := (List.range len).map D) (d := D i) (List.mem_map.2 ⟨i, List.mem_range.2 hi, rfl⟩) _ hm1
          have hm3 := hw _ (by
            simp only [DataW.weights, und27]
            exact List.mem_cons_of_mem _ (List.mem_append_left _ hm2))
          have b5 : Try.prog.bytesOf 5 = 1 := by kernel_rfl
          rw [b5, Nat.mul_one] at hm3
          have hll : (lits (H := H) .u8 (zs.take l')).length = l' := by simp [lits]; omega
          omega
        exact ⟨⟨n0, n1, n2, some x', l', c', nats (zs.take l')⟩, ⟨q0, q1, q2, q3⟩, ⟨wf0, wf1, wf2⟩, hl', by have := reachBytes_lt; show l' ≤ 140737488355328; omega, RB.of_row hrow⟩
  haveI : Inhabited Item := ⟨⟨0, 0, 0, none, 0, 0, []⟩⟩
  obtain ⟨q, hq⟩ := Go.Deep.choose_lt each
  refine ⟨a, len, cap, (List.range len).map q, rfl, by simp, fun _ => ⟨a, rfl, fun j x hx => ?_⟩, fun x hx => ?_⟩
  · have hj : j < len := by
      have := (List.getElem?_eq_some_iff.1 hx).1
      simpa using this
    rw [List.getElem?_map, List.getElem?_range hj] at hx
    simp only [Option.map_some, Option.some.injEq] at hx
    subst hx
    exact (hq j hj).1
  · obtain ⟨r, hr, rfl⟩ := List.mem_map.1 hx
    exact (hq r (List.mem_range.1 hr)).2
end
end Go.Proofs.Ytinndlofnpkfhaa
