/-
  Arrays of unsigned integers in blocks of their own: what a block holds, and the laws of whole-array operations.
-/
import Derived.Test.YtinndlofnpkfhaaRows
import Derived.Test.YtinndlofnpkfhaaMem
import Derived.Test.YtinndlofnpkfhaaOwn
import Derived.Laws.CopyOwn
import Derived.Great.BuildSlice
import Derived.Great.Walk
import Derived.Deep.WholeRow
namespace Go.Proofs.Ytinndlofnpkfhaa
open Go.RowKit

/-- The cells of a list of numbers. -/
def mk (k : IntKind) (l : List Nat) : Array Value := (l.map fun (x : Nat) => Value.int k (x : Int)).toArray

theorem mk_size (k : IntKind) (l : List Nat) : (mk k l).size = l.length := by simp [mk]
theorem mk_get (k : IntKind) (l : List Nat) (i : Nat) : (mk k l)[i]? = l[i]?.map fun (x : Nat) => Value.int k (x : Int) := by simp [mk]
theorem mk_set (k : IntKind) (l : List Nat) (i : Nat) (x : Nat) : (mk k l).setIfInBounds i (.int k (x : Int)) = mk k (l.set i x) := by
  apply Array.ext_getElem?
  intro j
  rw [Array.getElem?_setIfInBounds, mk_get, mk_get, mk_size, List.getElem?_set]
  by_cases h : i = j
  · subst h
    by_cases h2 : i < l.length
    · simp [h2]
    · simp [h2]
  · simp [h]
theorem mk_one (k : IntKind) (l : List Nat) : (mk k l).all (·.oneCell') = true := by simp [mk, Value.oneCell']

/-- Block g is an array of type T that holds the numbers l. -/
def Ar (w : World) (g : Nat) (k : IntKind) (T : TypeId) (l : List Nat) : Prop := w.heap[g]? = some (.cells (mk k l) T (0, 0))

theorem Ar.cell {w : World} {g : Nat} {k : IntKind} {T : TypeId} {l : List Nat} (h : Ar w g k T l) {i x : Nat} (hx : l[i]? = some x) : w.cell? ⟨g, i, none⟩ = some (.int k (x : Int)) := by
  rw [cell_of_row w g i _ T _ h, mk_get, hx]; rfl
theorem Ar.cellD {w : World} {g : Nat} {k : IntKind} {T : TypeId} {l : List Nat} (h : Ar w g k T l) {i : Nat} (hi : i < l.length) : w.cell? ⟨g, i, none⟩ = some (.int k ((l.getD i 0 : Nat) : Int)) := by
  refine h.cell ?_
  rw [List.getElem?_eq_getElem hi, List.getD_eq_getElem?_getD, List.getElem?_eq_getElem hi]; rfl
theorem Ar.frozen {w : World} {g : Nat} {k : IntKind} {T : TypeId} {l : List Nat} (h : Ar w g k T l) (i : Nat) : w.frozen? ⟨g, i, none⟩ = false := frozen_of_row w g i _ T h
theorem Ar.lt {w : World} {g : Nat} {k : IntKind} {T : TypeId} {l : List Nat} (h : Ar w g k T l) : g < w.heap.size := (Array.getElem?_eq_some_iff.1 h).1
theorem Ar.set {w : World} {g : Nat} {k : IntKind} {T : TypeId} {l : List Nat} (h : Ar w g k T l) (i x : Nat) : Ar (w.setCell ⟨g, i, none⟩ (.int k (x : Int))) g k T (l.set i x) := by
  unfold Ar
  rw [heap_setCell_same w g i _ T _ h, mk_set]
theorem Ar.other {w : World} {g : Nat} {k : IntKind} {T : TypeId} {l : List Nat} (h : Ar w g k T l) (a : Addr) (v : Value) (hn : g ≠ a.block) : Ar (w.setCell a v) g k T l := by
  unfold Ar
  rw [heap_setCell_other w a g v hn]; exact h
theorem Ar.alloc {w : World} {g : Nat} {k : IntKind} {T : TypeId} {l : List Nat} (h : Ar w g k T l) (o : Obj) : Ar (w.alloc o) g k T l := by
  unfold Ar
  rw [heap_alloc_old w o h.lt]; exact h
theorem Ar.new (w : World) (k : IntKind) (T : TypeId) (l : List Nat) : Ar (w.alloc (.cells (mk k l) T)) w.heap.size k T l := heap_alloc_new w _
theorem Ar.row {w : World} {g : Nat} {k k' : IntKind} {T : TypeId} {l : List Nat} (h : Ar w g k T l) (l' : List Nat) : Ar (w.setRow g (mk k' l')) g k' T l' := setRow_heap w g _ _ T _ h
theorem Ar.rowOther {w : World} {g g' : Nat} {k : IntKind} {T : TypeId} {l : List Nat} (h : Ar w g k T l) (cs : Array Value) (hn : g ≠ g') : Ar (w.setRow g' cs) g k T l := by
  unfold Ar
  rw [setRow_other w g' g cs hn]; exact h
theorem Ar.drew {w : World} {g : Nat} {k : IntKind} {T : TypeId} {l : List Nat} (h : Ar w g k T l) : Ar w.drew g k T l := h
theorem Ar.drewN {w : World} {g : Nat} {k : IntKind} {T : TypeId} {l : List Nat} (h : Ar w g k T l) (n : Nat) : Ar (w.drewN n) g k T l := h
theorem _root_.Go.RowKit.Below.dn {B : Nat} {a w : World} (h : Below B a w) (q : Nat) : Below B a (w.drewN q) := ⟨h.os, h.tape, h.output, h.size, h.block⟩
theorem set_getD (l : List Nat) (k y j : Nat) : (l.set k y).getD j 0 = if j = k ∧ k < l.length then y else l.getD j 0 := by
  rw [List.getD_eq_getElem?_getD, List.getElem?_set, List.getD_eq_getElem?_getD]
  by_cases h : k = j
  · subst h
    by_cases h2 : k < l.length
    · simp [h2]
    · simp [h2]
  · rw [if_neg h, if_neg (fun hh => h hh.1.symm)]
/-- Two lists of one length, alike at each place. -/
theorem ext_getD {l S : List Nat} {n : Nat} (h1 : l.length = n) (h2 : S.length = n) (h : ∀ j, j < n → l.getD j 0 = S.getD j 0) : l = S := by
  apply List.ext_getElem (by omega)
  intro j hj hj'
  have := h j (by omega)
  rwa [List.getD_eq_getElem?_getD, List.getD_eq_getElem?_getD, List.getElem?_eq_getElem hj, List.getElem?_eq_getElem hj'] at this
theorem Ar.below {w w' : World} {g : Nat} {k : IntKind} {T : TypeId} {l : List Nat} (h : Ar w g k T l) (hb : Below w.heap.size w w') : Ar w' g k T l := by
  unfold Ar
  rw [hb.block g h.lt]; exact h

section
variable {P : Program}
theorem wpList_alloc_ar {ops : Array Oper} {rest : List Oper} {o : Oper} {a : Act} {w : World} {Q : Exit → Act → World → Prop} (hg : o.guard = none) (T : TypeId) (ho : o.op = .alloc T)
    (k : IntKind) (n : Nat) (hz : (P.info? T).map (·.zero) = some (some (.agg (mk k (List.replicate n 0)))))
    (h : wpList P ops Q rest (a.put o.dst (.pointer (some ⟨w.heap.size, 0, none⟩))) (w.alloc (.cells (mk k (List.replicate n 0)) T))) : wpList P ops Q (o :: rest) a w := by
  refine Great.wpList_allocTo hg o.dst rfl _ (.cells (mk k (List.replicate n 0)) T) ?_ h
  cases hq : P.info? T with
  | none => simp [hq] at hz
  | some i =>
    simp only [hq, Option.map_some, Option.some.injEq] at hz
    have hzz : (zeroValue T).run P w = .ok (.agg (mk k (List.replicate n 0))) w := by simp [zeroValue, typeInfo, hq, hz]
    unfold execOp
    simp only [ho, Instr.alloc, Sem.run_bind, hzz, Result.andThen_ok, newVar, newRow, Value.cells, run_newObj_alloc, Sem.run_pure]

theorem wpList_box_ar {ops : Array Oper} {rest : List Oper} {o : Oper} {a : Act} {w : World} {Q : Exit → Act → World → Prop} (hg : o.guard = none) (T : TypeId) (x : Operand) (ho : o.op = .box T x)
    (k : IntKind) (l : List Nat) (hx : a.eval x = .agg (mk k l))
    (h : wpList P ops Q rest (a.put o.dst (.pointer (some ⟨w.heap.size, 0, none⟩))) (w.alloc (.cells (mk k l) T))) : wpList P ops Q (o :: rest) a w :=
  Great.wpList_boxTo hg T x ho o.dst rfl w.heap.size rfl (mk k l) (by rw [hx]; rfl) h

theorem wpList_load_ar {ops : Array Oper} {rest : List Oper} {o : Oper} {a : Act} {w : World} {Q : Exit → Act → World → Prop} (hgd : o.guard = none) (T : TypeId) (x : Operand) (ho : o.op = .load T x)
    (g : Nat) (hx : a.eval x = .pointer (some ⟨g, 0, none⟩)) (k : IntKind) (l : List Nat) (hg : Ar w g k T l)
    (n : Nat) (e : TypeId) (hu : P.underlying T = some (.array n e)) (hi : (P.info? T).map (·.size) = some l.length)
    (h : wpList P ops Q rest (a.put o.dst (.agg (mk k l))) w) : wpList P ops Q (o :: rest) a w :=
  wpList_load_row hgd T x ho g hx T _ (0, 0) _ hg hu rfl (by rw [mk_size]; exact hi) h

theorem wpList_store_ar {ops : Array Oper} {rest : List Oper} {o : Oper} {a : Act} {w : World} {Q : Exit → Act → World → Prop} (hgd : o.guard = none) (T : TypeId) (x y : Operand) (ho : o.op = .store T x y)
    (hd : o.dst = none) (g : Nat) (hx : a.eval x = .pointer (some ⟨g, 0, none⟩)) (k : IntKind) (l l' : List Nat) (hy : a.eval y = .agg (mk k l')) (hg : Ar w g k T l)
    (hi : (P.info? T).map (·.size) = some l.length) (hl : l.length = l'.length)
    (h : wpList P ops Q rest a (w.setRow g (mk k l'))) : wpList P ops Q (o :: rest) a w :=
  wpList_store_rowTo hgd T x y ho hd g _ hx hy T _ hg (by rw [mk_size, ← hl]; exact hi) (by rw [mk_size, mk_size]; exact hl) (mk_one k l') h

theorem wpList_build_ar {ops : Array Oper} {rest : List Oper} {o : Oper} {a : Act} {w : World} {Q : Exit → Act → World → Prop} (hg : o.guard = none) (t e : TypeId) (n : Nat) (parts : Array (Nat × Operand)) (ho : o.op = .build t parts)
    (k : IntKind) (l : List Nat) (hu : P.underlying t = some (.array n e)) (hsz : (P.info? e).map (·.size) = some 1) (hz : ((P.info? t).bind (·.zero)).map (·.cells.size) = some l.length)
    (hparts : parts.toList = (l.zipIdx 0).map fun x => (x.2, Operand.const (Value.int k (x.1 : Int))))
    (h : wpList P ops Q rest (a.put o.dst (.agg (mk k l))) w) : wpList P ops Q (o :: rest) a w := by
  refine wpList_buildFlatArrTo hg t e n parts ho k (l.map fun (x : Nat) => (x : Int)) o.dst rfl hu hsz (by rw [List.length_map]; exact hz) ?_ ?_
  · rw [hparts, List.zipIdx_map, List.map_map]; rfl
  · rw [List.map_map]; exact h

theorem results_ar {fn : Func} {p : Tmp} {T : TypeId} (h : fn.results = #[.cell p T]) (tmps : Array Value) (w : World) (g : Nat) (k : IntKind) (l : List Nat)
    (hp : tmps.getD p undef = .pointer (some ⟨g, 0, none⟩)) (hg : Ar w g k T l)
    (n : Nat) (e : TypeId) (hu : P.underlying T = some (.array n e)) (hi : (P.info? T).map (·.size) = some l.length) :
    (results fn tmps).run P w = .ok (.agg (mk k l)) w :=
  results_cell_row h tmps w g T _ (0, 0) _ hp hg hu rfl (by rw [mk_size]; exact hi)
end

/-- A new block, the world behind it under a name. -/
theorem lay (w : World) (k : IntKind) (T : TypeId) (l : List Nat) : ∃ w1, w1 = w.alloc (.cells (mk k l) T) ∧ w1.heap.size = w.heap.size + 1 ∧ Below w.heap.size w w1 ∧ Ar w1 w.heap.size k T l :=
  ⟨_, rfl, by simp, (Below.refl _ _).alloc (Nat.le_refl _) _, Ar.new _ _ _ _⟩
theorem putrow {w : World} {g : Nat} {k : IntKind} {T : TypeId} {l : List Nat} (l' : List Nat) (h : Ar w g k T l) :
    ∃ w1, w1 = w.setRow g (mk k l') ∧ w1.heap.size = w.heap.size ∧ Below g w w1 ∧ Ar w1 g k T l' ∧ Only (fun b => b = g) w w1 :=
  ⟨_, rfl, by simp, below_setRow (Below.refl _ _) (Nat.le_refl _) _, h.row l', ⟨rfl, rfl, rfl, by simp, fun i _ hn => setRow_other w g i _ hn⟩⟩
theorem Ar.only {S : Nat → Prop} {w w' : World} {g : Nat} {k : IntKind} {T : TypeId} {l : List Nat} (h : Ar w g k T l) (ho : Only S w w') (hs : ¬ S g) : Ar w' g k T l := ho.heap h hs
theorem Ar.heap {w w' : World} {g : Nat} {k : IntKind} {T : TypeId} {l : List Nat} (h : Ar w g k T l) (e : w'.heap = w.heap) : Ar w' g k T l := by unfold Ar; rw [e]; exact h

theorem z89 : (Try.prog.info? 89).map (·.zero) = some (some (.agg (mk .u32 (List.replicate 64 0)))) := by kernel_rfl
theorem z79 : (Try.prog.info? 79).map (·.zero) = some (some (.agg (mk .u32 (List.replicate 8 0)))) := by kernel_rfl
theorem z58 : (Try.prog.info? 58).map (·.zero) = some (some (.agg (mk .u8 (List.replicate 32 0)))) := by kernel_rfl
theorem z81 : (Try.prog.info? 81).map (·.zero) = some (some (.agg (mk .u64 (List.replicate 64 0)))) := by kernel_rfl
theorem z82 : (Try.prog.info? 82).map (·.zero) = some (some (.agg (mk .u64 (List.replicate 8 0)))) := by kernel_rfl
theorem s89 : (Try.prog.info? 89).map (·.size) = some 64 := by kernel_rfl
theorem s79 : (Try.prog.info? 79).map (·.size) = some 8 := by kernel_rfl
theorem s58 : (Try.prog.info? 58).map (·.size) = some 32 := by kernel_rfl
theorem s81 : (Try.prog.info? 81).map (·.size) = some 64 := by kernel_rfl
theorem s82 : (Try.prog.info? 82).map (·.size) = some 8 := by kernel_rfl
theorem y89 : Try.prog.underlying 89 = some (.array 64 24) := by kernel_rfl
theorem y79 : Try.prog.underlying 79 = some (.array 8 24) := by kernel_rfl
theorem y58 : Try.prog.underlying 58 = some (.array 32 5) := by kernel_rfl
theorem y81 : Try.prog.underlying 81 = some (.array 64 34) := by kernel_rfl
theorem y82 : Try.prog.underlying 82 = some (.array 8 34) := by kernel_rfl
end Go.Proofs.Ytinndlofnpkfhaa
