/-
  Arrays of unsigned integers in blocks of their own: what a block holds, and the laws of whole-array operations. The walk of sum.steps: a table, by value. The walks of bits.RotateLeft32 and of the document's turned. The walk of sum.padded.
-/
import Derived.Test.YtlhaempecidohaaGreatDoorProg
import Derived.Laws.CopyOwn
import Derived.Great.BuildSlice
import Derived.Great.Walk
import Derived.Deep.WholeRow
import Derived.Test.YtlhaempecidohaaGreatDoorJac
import Derived.Test.YtlhaempecidohaaGreatDoorJad
import Derived.Test.YtlhaempecidohaaGreatDoorJaa
set_option linter.unusedSimpArgs false
set_option linter.unusedVariables false
namespace Go.Proofs.YtlhaempecidohaaGreatDoor
open Go.RowKit
/-- The cells of a list of numbers. -/
def mk (k : IntKind) (l : List Nat) : Array Value := (l.map fun (x : Nat) => Value.int k (x : Int)).toArray
theorem mk_size (k : IntKind) (l : List Nat) : (mk k l).size = l.length := by simp [mk]
theorem mk_get (k : IntKind) (l : List Nat) (i : Nat) : (mk k l)[i]? = l[i]?.map fun (x : Nat) => Value.int k (x : Int) := by simp [mk]
theorem mk_set (k : IntKind) (l : List Nat) (i : Nat) (x : Nat) : (mk k l).setIfInBounds i (.int k (x : Int)) = mk k (l.set i x) := by
  apply Array.ext_getElem?
  intro j
  rw [Array.getElem?_setIfInBounds, mk_get, mk_get, mk_size, List.getElem?_set]
  by_cases h : i = j
  · subst h
    by_cases h2 : i < l.length
    · simp [h2]
    · simp [h2]
  · simp [h]
theorem mk_one (k : IntKind) (l : List Nat) : (mk k l).all (·.oneCell') = true := by simp [mk, Value.oneCell']
/-- Block g is an array of type T that holds the numbers l. -/
def Ar (w : World) (g : Nat) (k : IntKind) (T : TypeId) (l : List Nat) : Prop := w.heap[g]? = some (.cells (mk k l) T (0, 0))
theorem Ar.cell {w : World} {g : Nat} {k : IntKind} {T : TypeId} {l : List Nat} (h : Ar w g k T l) {i x : Nat} (hx : l[i]? = some x) : w.cell? ⟨g, i, none⟩ = some (.int k (x : Int)) := by
  rw [cell_of_row w g i _ T _ h, mk_get, hx]; rfl
theorem Ar.cellD {w : World} {g : Nat} {k : IntKind} {T : TypeId} {l : List Nat} (h : Ar w g k T l) {i : Nat} (hi : i < l.length) : w.cell? ⟨g, i, none⟩ = some (.int k ((l.getD i 0 : Nat) : Int)) := by
  refine h.cell ?_
  rw [List.getElem?_eq_getElem hi, List.getD_eq_getElem?_getD, List.getElem?_eq_getElem hi]; rfl
theorem Ar.frozen {w : World} {g : Nat} {k : IntKind} {T : TypeId} {l : List Nat} (h : Ar w g k T l) (i : Nat) : w.frozen? ⟨g, i, none⟩ = false := frozen_of_row w g i _ T h
theorem Ar.lt {w : World} {g : Nat} {k : IntKind} {T : TypeId} {l : List Nat} (h : Ar w g k T l) : g < w.heap.size := (Array.getElem?_eq_some_iff.1 h).1
theorem Ar.set {w : World} {g : Nat} {k : IntKind} {T : TypeId} {l : List Nat} (h : Ar w g k T l) (i x : Nat) : Ar (w.setCell ⟨g, i, none⟩ (.int k (x : Int))) g k T (l.set i x) := by
  unfold Ar
  rw [heap_setCell_same w g i _ T _ h, mk_set]
theorem Ar.other {w : World} {g : Nat} {k : IntKind} {T : TypeId} {l : List Nat} (h : Ar w g k T l) (a : Addr) (v : Value) (hn : g ≠ a.block) : Ar (w.setCell a v) g k T l := by
  unfold Ar
  rw [heap_setCell_other w a g v hn]; exact h
theorem Ar.alloc {w : World} {g : Nat} {k : IntKind} {T : TypeId} {l : List Nat} (h : Ar w g k T l) (o : Obj) : Ar (w.alloc o) g k T l := by
  unfold Ar
  rw [heap_alloc_old w o h.lt]; exact h
theorem Ar.new (w : World) (k : IntKind) (T : TypeId) (l : List Nat) : Ar (w.alloc (.cells (mk k l) T)) w.heap.size k T l := heap_alloc_new w _
theorem Ar.row {w : World} {g : Nat} {k k' : IntKind} {T : TypeId} {l : List Nat} (h : Ar w g k T l) (l' : List Nat) : Ar (w.setRow g (mk k' l')) g k' T l' := setRow_heap w g _ _ T _ h
theorem Ar.rowOther {w : World} {g g' : Nat} {k : IntKind} {T : TypeId} {l : List Nat} (h : Ar w g k T l) (cs : Array Value) (hn : g ≠ g') : Ar (w.setRow g' cs) g k T l := by
  unfold Ar
  rw [setRow_other w g' g cs hn]; exact h
theorem Ar.drew {w : World} {g : Nat} {k : IntKind} {T : TypeId} {l : List Nat} (h : Ar w g k T l) : Ar w.drew g k T l := h
theorem Ar.drewN {w : World} {g : Nat} {k : IntKind} {T : TypeId} {l : List Nat} (h : Ar w g k T l) (n : Nat) : Ar (w.drewN n) g k T l := h
theorem _root_.Go.RowKit.Below.dn {B : Nat} {a w : World} (h : Below B a w) (q : Nat) : Below B a (w.drewN q) := ⟨h.os, h.tape, h.output, h.size, h.block⟩
theorem set_getD (l : List Nat) (k y j : Nat) : (l.set k y).getD j 0 = if j = k ∧ k < l.length then y else l.getD j 0 := by
  rw [List.getD_eq_getElem?_getD, List.getElem?_set, List.getD_eq_getElem?_getD]
  by_cases h : k = j
  · subst h
    by_cases h2 : k < l.length
    · simp [h2]
    · simp [h2]
  · rw [if_neg h, if_neg (fun hh => h hh.1.symm)]
/-- Two lists of one length, alike at each place. -/
theorem ext_getD {l S : List Nat} {n : Nat} (h1 : l.length = n) (h2 : S.length = n) (h : ∀ j, j < n → l.getD j 0 = S.getD j 0) : l = S := by
  apply List.ext_getElem (by omega)
  intro j hj hj'
  have := h j (by omega)
  rwa [List.getD_eq_getElem?_getD, List.getD_eq_getElem?_getD, List.getElem?_eq_getElem hj, List.getElem?_eq_getElem hj'] at this
theorem Ar.below {w w' : World} {g : Nat} {k : IntKind} {T : TypeId} {l : List Nat} (h : Ar w g k T l) (hb : Below w.heap.size w w') : Ar w' g k T l := by
  unfold Ar
  rw [hb.block g h.lt]; exact h
section
variable {P : Program}
theorem wpList_alloc_ar {ops : Array Oper} {rest : List Oper} {o : Oper} {a : Act} {w : World} {Q : Exit → Act → World → Prop} (hg : o.guard = none) (T : TypeId) (ho : o.op = .alloc T)
    (k : IntKind) (n : Nat) (hz : (P.info? T).map (·.zero) = some (some (.agg (mk k (List.replicate n 0)))))
    (h : wpList P ops Q rest (a.put o.dst (.pointer (some ⟨w.heap.size, 0, none⟩))) (w.alloc (.cells (mk k (List.replicate n 0)) T))) : wpList P ops Q (o :: rest) a w := by
  refine Great.wpList_allocTo hg o.dst rfl _ (.cells (mk k (List.replicate n 0)) T) ?_ h
  cases hq : P.info? T with
  | none => simp [hq] at hz
  | some i =>
    simp only [hq, Option.map_some, Option.some.injEq] at hz
    have hzz : (zeroValue T).run P w = .ok (.agg (mk k (List.replicate n 0))) w := by simp [zeroValue, typeInfo, hq, hz]
    unfold execOp
    simp only [ho, Instr.alloc, Sem.run_bind, hzz, Result.andThen_ok, newVar, newRow, Value.cells, run_newObj_alloc, Sem.run_pure]
theorem wpList_box_ar {ops : Array Oper} {rest : List Oper} {o : Oper} {a : Act} {w : World} {Q : Exit → Act → World → Prop} (hg : o.guard = none) (T : TypeId) (x : Operand) (ho : o.op = .box T x)
    (k : IntKind) (l : List Nat) (hx : a.eval x = .agg (mk k l))
    (h : wpList P ops Q rest (a.put o.dst (.pointer (some ⟨w.heap.size, 0, none⟩))) (w.alloc (.cells (mk k l) T))) : wpList P ops Q (o :: rest) a w :=
  Great.wpList_boxTo hg T x ho o.dst rfl w.heap.size rfl (mk k l) (by rw [hx]; rfl) h
theorem wpList_load_ar {ops : Array Oper} {rest : List Oper} {o : Oper} {a : Act} {w : World} {Q : Exit → Act → World → Prop} (hgd : o.guard = none) (T : TypeId) (x : Operand) (ho : o.op = .load T x)
    (g : Nat) (hx : a.eval x = .pointer (some ⟨g, 0, none⟩)) (k : IntKind) (l : List Nat) (hg : Ar w g k T l)
    (n : Nat) (e : TypeId) (hu : P.underlying T = some (.array n e)) (hi : (P.info? T).map (·.size) = some l.length)
    (h : wpList P ops Q rest (a.put o.dst (.agg (mk k l))) w) : wpList P ops Q (o :: rest) a w :=
  wpList_load_row hgd T x ho g hx T _ (0, 0) _ hg hu rfl (by rw [mk_size]; exact hi) h
theorem wpList_store_ar {ops : Array Oper} {rest : List Oper} {o : Oper} {a : Act} {w : World} {Q : Exit → Act → World → Prop} (hgd : o.guard = none) (T : TypeId) (x y : Operand) (ho : o.op = .store T x y)
    (hd : o.dst = none) (g : Nat) (hx : a.eval x = .pointer (some ⟨g, 0, none⟩)) (k : IntKind) (l l' : List Nat) (hy : a.eval y = .agg (mk k l')) (hg : Ar w g k T l)
    (hi : (P.info? T).map (·.size) = some l.length) (hl : l.length = l'.length)
    (h : wpList P ops Q rest a (w.setRow g (mk k l'))) : wpList P ops Q (o :: rest) a w :=
  wpList_store_rowTo hgd T x y ho hd g _ hx hy T _ hg (by rw [mk_size, ← hl]; exact hi) (by rw [mk_size, mk_size]; exact hl) (mk_one k l') h
theorem wpList_build_ar {ops : Array Oper} {rest : List Oper} {o : Oper} {a : Act} {w : World} {Q : Exit → Act → World → Prop} (hg : o.guard = none) (t e : TypeId) (n : Nat) (parts : Array (Nat × Operand)) (ho : o.op = .build t parts)
    (k : IntKind) (l : List Nat) (hu : P.underlying t = some (.array n e)) (hsz : (P.info? e).map (·.size) = some 1) (hz : ((P.info? t).bind (·.zero)).map (·.cells.size) = some l.length)
    (hparts : parts.toList = (l.zipIdx 0).map fun x => (x.2, Operand.const (Value.int k (x.1 : Int))))
    (h : wpList P ops Q rest (a.put o.dst (.agg (mk k l))) w) : wpList P ops Q (o :: rest) a w := by
  refine wpList_buildFlatArrTo hg t e n parts ho k (l.map fun (x : Nat) => (x : Int)) o.dst rfl hu hsz (by rw [List.length_map]; exact hz) ?_ ?_
  · rw [hparts, List.zipIdx_map, List.map_map]; rfl
  · rw [List.map_map]; exact h
theorem results_ar {fn : Func} {p : Tmp} {T : TypeId} (h : fn.results = #[.cell p T]) (tmps : Array Value) (w : World) (g : Nat) (k : IntKind) (l : List Nat)
    (hp : tmps.getD p undef = .pointer (some ⟨g, 0, none⟩)) (hg : Ar w g k T l)
    (n : Nat) (e : TypeId) (hu : P.underlying T = some (.array n e)) (hi : (P.info? T).map (·.size) = some l.length) :
    (results fn tmps).run P w = .ok (.agg (mk k l)) w :=
  results_cell_row h tmps w g T _ (0, 0) _ hp hg hu rfl (by rw [mk_size]; exact hi)
end
/-- A new block, the world behind it under a name. -/
theorem lay (w : World) (k : IntKind) (T : TypeId) (l : List Nat) : ∃ w1, w1 = w.alloc (.cells (mk k l) T) ∧ w1.heap.size = w.heap.size + 1 ∧ Below w.heap.size w w1 ∧ Ar w1 w.heap.size k T l :=
  ⟨_, rfl, by simp, (Below.refl _ _).alloc (Nat.le_refl _) _, Ar.new _ _ _ _⟩
theorem putrow {w : World} {g : Nat} {k : IntKind} {T : TypeId} {l : List Nat} (l' : List Nat) (h : Ar w g k T l) :
    ∃ w1, w1 = w.setRow g (mk k l') ∧ w1.heap.size = w.heap.size ∧ Below g w w1 ∧ Ar w1 g k T l' ∧ Only (fun b => b = g) w w1 :=
  ⟨_, rfl, by simp, below_setRow (Below.refl _ _) (Nat.le_refl _) _, h.row l', ⟨rfl, rfl, rfl, by simp, fun i _ hn => setRow_other w g i _ hn⟩⟩
theorem Ar.only {S : Nat → Prop} {w w' : World} {g : Nat} {k : IntKind} {T : TypeId} {l : List Nat} (h : Ar w g k T l) (ho : Only S w w') (hs : ¬ S g) : Ar w' g k T l := ho.heap h hs
theorem Ar.heap {w w' : World} {g : Nat} {k : IntKind} {T : TypeId} {l : List Nat} (h : Ar w g k T l) (e : w'.heap = w.heap) : Ar w' g k T l := by unfold Ar; rw [e]; exact h
theorem z282 : (Tryz.prog.info? 282).map (·.zero) = some (some (.agg (mk .u32 (List.replicate 64 0)))) := by kernel_rfl
theorem z220 : (Tryz.prog.info? 220).map (·.zero) = some (some (.agg (mk .u32 (List.replicate 8 0)))) := by kernel_rfl
theorem z138 : (Tryz.prog.info? 138).map (·.zero) = some (some (.agg (mk .u8 (List.replicate 32 0)))) := by kernel_rfl
theorem s282 : (Tryz.prog.info? 282).map (·.size) = some 64 := by kernel_rfl
theorem s220 : (Tryz.prog.info? 220).map (·.size) = some 8 := by kernel_rfl
theorem s138 : (Tryz.prog.info? 138).map (·.size) = some 32 := by kernel_rfl
theorem y282 : Tryz.prog.underlying 282 = some (.array 64 35) := by kernel_rfl
theorem y220 : Tryz.prog.underlying 220 = some (.array 8 35) := by kernel_rfl
theorem y138 : Tryz.prog.underlying 138 = some (.array 32 5) := by kernel_rfl
end Go.Proofs.YtlhaempecidohaaGreatDoor
namespace Go.Proofs.YtlhaempecidohaaGreatDoor
open Go.RowKit
set_option maxHeartbeats 400000 in
theorem steps_any (w : World) : Calls Tryz.prog 194 #[] w fun e w' => e = .returned (.agg (mk .u32 Sha.K)) ∧ Below w.heap.size w w' := by
  go_enter Tryz.func194, Tryz.ntmps194
  obtain ⟨l, hl⟩ : ∃ l, l = Sha.K := ⟨_, rfl⟩
  go_wp2_with (first
    | (refine wpList_alloc_ar rfl 282 rfl .u32 64 z282 ?_)
    | (refine wpList_build_ar rfl 282 35 64 _ rfl .u32 Sha.K y282 (by kernel_rfl) (by kernel_rfl) (by kernel_rfl) ?_; rw [← hl])
    | (refine wpList_store_ar rfl 282 _ _ rfl rfl w.heap.size rfl .u32 (List.replicate 64 0) _ rfl (Ar.new _ _ _ _) s282 (by subst hl; rfl) ?_))
  exact bodyPost_ret (results_ar rfl _ _ w.heap.size .u32 l rfl (Ar.row (Ar.new _ _ _ _) l) 64 35 y282 (by rw [hl]; exact s282)) rfl ⟨by rw [hl], below_setRow ((Below.refl _ _).alloc (Nat.le_refl _) _) (Nat.le_refl _) _⟩
end Go.Proofs.YtlhaempecidohaaGreatDoor
namespace Go.Proofs.YtlhaempecidohaaGreatDoor
open Go.RowKit
theorem back31 (n : Nat) (h2 : n < 32) (h1 : 1 ≤ n) : bits .and .u64 (IntKind.u64.wrap (-(n : Int))) 31 = ((32 - n : Nat) : Int) :=
  (by decide +kernel : ∀ n : Nat, n < 32 → 1 ≤ n → bits .and .u64 (IntKind.u64.wrap (-(n : Int))) 31 = ((32 - n : Nat) : Int)) n h2 h1
set_option maxHeartbeats 400000 in
theorem rot_any (x n : Nat) (w : World) (hx : x < 4294967296) (h1 : 1 ≤ n) (h2 : n < 32) : Calls Tryz.prog 195 #[.int .u32 x, .int .i64 (-(n : Int))] w fun e w' => e = .returned (.int .u32 ((Sha.ror x n : Nat) : Int)) ∧ w = w' := by
  have b1 := back31 n h2 h1
  have b2 : bits .or .u32 (IntKind.u32.wrap ((x : Int) * 2 ^ (32 - n))) ((x : Int) / 2 ^ n) = ((Sha.ror x n : Nat) : Int) := by
    have e1 : IntKind.u32.wrap ((x : Int) * 2 ^ (32 - n)) = ((x * 2 ^ (32 - n) % 4294967296 : Nat) : Int) := by
      rw [IntKind.wrap_u32, Int.natCast_emod, Int.natCast_mul, Int.natCast_pow]; rfl
    have e2 : (x : Int) / 2 ^ n = ((x / 2 ^ n : Nat) : Int) := by rw [Int.natCast_ediv, Int.natCast_pow]; rfl
    rw [e1, e2, u32_or_nat _ _ (Nat.mod_lt _ (by decide)) (Nat.lt_of_le_of_lt (Nat.div_le_self _ _) hx), Nat.or_comm]
    rfl
  have B2 := Lib.hid b2
  obtain ⟨m, hm⟩ : ∃ m, m = 32 - n := ⟨_, rfl⟩
  rw [← hm] at b1
  have HM := Lib.hid hm
  have hm1 : m < 32 := by omega
  have hm2 : 32 - m = n := by omega
  have HN := Lib.hid hm2
  clear b2 hm hm2
  go_enter Tryz.func195, Tryz.ntmps195
  go_wp2
  go_ret
  refine ⟨?_, rfl⟩
  rw [← B2.out, ← HM.out]
  show Ending.returned (Value.int .u32 (bits .or .u32 ((x : Int) * 2 ^ m % 4294967296) ((x : Int) / 2 ^ (32 - m)))) = _
  rw [HN.out, IntKind.wrap_u32]
theorem rot_at (x n : Nat) (w : World) (hx : x < 4294967296) (h1 : 1 ≤ n) (h2 : n < 32) (z : Int) (hz : z = -(n : Int)) : Calls Tryz.prog 195 #[.int .u32 x, .int .i64 z] w fun e w' => e = .returned (.int .u32 ((Sha.ror x n : Nat) : Int)) ∧ w = w' := by
  subst hz; exact rot_any x n w hx h1 h2
theorem rotq (x n : Nat) (w : World) (hx : x < 4294967296) (h1 : 1 ≤ n) (h2 : n < 32) (z : Int) (hz : z = -(n : Int)) : Calls Tryz.prog 195 #[.int .u32 x, .int .i64 z] w fun e w' => e = .returned (.int .u32 ((Sha.ror x n : Nat) : Int)) ∧ w' = w :=
  (rot_at x n w hx h1 h2 z hz).mono fun _ _ ⟨h, k⟩ => ⟨h, k.symm⟩
theorem xor3 (a b c q : Nat) (ha : a < 4294967296) (hb : b < 4294967296) (hc : c < 4294967296) (z : Int) (hz : z = (c : Int)) (hq : q = a ^^^ b ^^^ c) :
    ∃ m : Nat, bits .xor .u32 (a : Int) (b : Int) = (m : Int) ∧ bits .xor .u32 (m : Int) z = (q : Int) := by
  subst hz hq
  exact ⟨a ^^^ b, u32_xor_nat a b ha hb, u32_xor_nat _ _ (Sha.xor_lt ha hb) hc⟩
end Go.Proofs.YtlhaempecidohaaGreatDoor
namespace Go.Proofs.YtlhaempecidohaaGreatDoor
open Go.RowKit
def lenV : Value → Nat
  | .slice _ m _ => m
  | _ => 0
theorem below_app {B : Nat} {w0 w w' : World} {A : Option Addr} {n c : Nat} {l : List Nat} (hB : Below B w0 w) (hBs : B ≤ w.heap.size) (hO : Own w B A n c l) {o : Obj} (ho : Only (fun k => blk A = some k) (w.alloc o) w') : Below B w0 w' :=
  (hB.alloc hBs o).trans (ho.below (by simp; omega) (fun i hi e => by have := (hO.lt i e).1; omega))
set_option maxHeartbeats 1000000 in
theorem padded_any (A : Option Addr) (n c : Nat) (b : List Nat) (w : World) (hb : RB w A n b) (hn : n ≤ 10000000) :
    Calls Tryz.prog 135 #[.slice A n c] w fun e w' => ∃ A' m c', e = .returned (.slice A' m c') ∧ Own w' w.heap.size A' m c' (Sha.padded b) ∧ Below w.heap.size w w' := by
  have hlen := hb.1
  obtain ⟨i0, hi, hz0, hz1, hz2⟩ := info_parts Tryz.info5
  obtain ⟨w1, hmk, hown, hgrow⟩ := run_makeSlice_owned (P := Tryz.prog) (w := w) w.heap.size 23 5 i0 (.int .u8 0) 1 Tryz.underlying23 hi hz0 hz1 .i64 .i64 (n + 128) (by omega) (by rw [hz2]; omega) (by unfold maxLen; omega) (Nat.le_refl _)
  have hmk' : (Instr.makeSlice 23 (.int .i64 0) (.int .i64 ((n : Int) + 128))).run Tryz.prog w = .ok (.slice (some ⟨w.heap.size, 0, none⟩) 0 (n + 128)) w1 := hmk
  have hO1 : Own w1 w.heap.size (some ⟨w.heap.size, 0, none⟩) 0 (n + 128) [] := ⟨rfl, by simp, hown⟩
  have hB1 : Below w.heap.size w w1 := (Only.of_grown (S := fun _ => False) hgrow (fun k hk => by cases hk)).none_ (fun _ _ h => h)
  have hr1 := hb.below hB1
  clear hmk hown hgrow hi hz0 hz1 hz2 i0
  go_enter Tryz.func135, Tryz.ntmps135
  go_wp2_with (first
    | (at_builtin; refine wpList_append_rb rfl (.tmp 9) (.tmp 10) rfl rfl rfl hO1 hr1 (by omega) hB1.size ?_; intro A2 c2 w2 hO2 ho2 _; simp only [Nat.zero_add, List.nil_append] at hO2; rw [Nat.zero_add]; have hB2 := ho2.below hB1.size (fun i hi e => by simp [blk] at e; omega))
    | (at_builtin; refine wpList_append_rb rfl (.tmp 11) (.tmp 12) rfl rfl rfl (hO2.alloc (.cells #[.int .u8 128] 5)) (RB.new w2 #[.int .u8 128] 5 (0, 0) [128] rfl (by decide)) (by simp; omega) (by have := hB1.size; have := hB2.size; simp; omega) ?_; intro A3 c3 w3 hO3 ho3 _; have hO3l := (hO2.alloc (.cells #[.int .u8 128] 5)).lt))
  have hB3 : Below w.heap.size w w3 := below_app (hB1.trans hB2) (by have := hB1.size; have := hB2.size; omega) hO2 ho3
  obtain ⟨z, hz⟩ : ∃ z, z = Sha.zeros n := ⟨_, rfl⟩
  have hz1 : z = (119 - n % 64) % 64 := hz
  have HZ := Lib.hid hz
  clear hz
  clear hO1 hr1 hmk' hB1 ho2 hO2 hB2 ho3 hO3l
  go_loopw [3] (fun v wr => ∃ (A' : Option Addr) (c' j : Nat), j ≤ z ∧ v = .slice A' (n + 1 + j) c' ∧ Own wr w.heap.size A' (n + 1 + j) c' (b ++ [128] ++ List.replicate j 0) ∧ Below w.heap.size w wr) (fun v _ => n + 1 + z - lenV v)
  case atStart => exact ⟨A3, c3, 0, Nat.zero_le _, rfl, by simpa using hO3, hB3⟩
  case round =>
    clear hO3 hB3
    obtain ⟨A', c', j, hj, rfl, hO, hB⟩ := hrel
    have hB' := hB.size
    by_cases hlt : j < z
    · have hm : ((n + 1 + j) % 64 : Nat) ≠ 56 := by omega
      have ht : decide (Int.tmod ((n : Int) + 1 + (j : Int)) 64 = 56) = false := by
        rw [Int.tmod_eq_emod_of_nonneg (by omega)]; simp; omega
      have hOa := hO.alloc (.cells #[.int .u8 0] 5)
      have hra := RB.new wr #[.int .u8 0] 5 (0, 0) [0] rfl (by decide)
      have HB := Lib.hid hB
      have HO := Lib.hid hO
      clear hB hO
      go_wp2_with (at_builtin; refine wpList_append_rb rfl (.tmp 18) (.tmp 19) rfl rfl rfl hOa hra (by simp; omega) (by simp; omega) ?_; intro A3 c3 w4 hO4 ho4 _)
      go_roundw
      case rel =>
        refine ⟨A3, c3, j + 1, by omega, rfl, ?_, below_app HB.out hB' HO.out ho4⟩
        have e : b ++ [128] ++ List.replicate (j + 1) 0 = b ++ [128] ++ List.replicate j 0 ++ [0] := by rw [List.replicate_succ', ← List.append_assoc]
        rw [e]; exact hO4
      case measure => simp [lenV]; omega
    · obtain rfl : j = z := by omega
      have hm : ((n + 1 + j) % 64 : Nat) = 56 := by omega
      have ht : decide (Int.tmod ((n : Int) + 1 + (j : Int)) 64 = 56) = true := by
        rw [Int.tmod_eq_emod_of_nonneg (by omega)]; simp; omega
      have ht2 : (((n : Int) + 1 + (j : Int)) % 64 != 56) = false := by simp; omega
      have w8 : IntKind.u64.wrap (IntKind.u64.wrap (n : Int) * 8) = ((8 * n : Nat) : Int) := by rw [IntKind.wrap_u64, IntKind.wrap_u64]; omega
      have w8' : IntKind.u64.wrap (n : Int) = (n : Int) := by rw [IntKind.wrap_u64]; omega
      rw [w8'] at w8
      obtain ⟨v, hv⟩ : ∃ v, v = 8 * n := ⟨_, rfl⟩
      rw [← hv] at w8
      obtain ⟨q, hq⟩ : ∃ q, q = n + 1 + j := ⟨_, rfl⟩
      obtain ⟨l0, hl0⟩ : ∃ l, l = b ++ [128] ++ List.replicate j 0 := ⟨_, rfl⟩
      rw [← hl0] at hO
      have HO := Lib.hid hO
      have HB := Lib.hid hB
      have HV := Lib.hid hv
      have HL0 := Lib.hid hl0
      have HLEN := Lib.hid hlen
      have hjb : j < 64 := by omega
      clear hO hB hv hb hz1 hj hlt hq hl0 hlen
      go_wp2
      go_loopw [3, 5] (fun v3 v5 wr => ∃ (A' : Option Addr) (c' i : Nat), i ≤ 8 ∧ v3 = .slice A' (n + 1 + j + i) c' ∧ v5 = .int .i64 (56 - 8 * (i : Int)) ∧ Own wr w.heap.size A' (n + 1 + j + i) c' (l0 ++ bebTo v 8 i) ∧ Below w.heap.size w wr) (fun v _ _ => n + 1 + j + 8 - lenV v)
      case atStart => exact ⟨A', c', 0, by decide, rfl, rfl, by simpa [bebTo] using HO.out, HB.out⟩
      case round =>
        clear HO HB hm ht ht2 hB'
        obtain ⟨A', c', i, hi, rfl, rfl, hO, hB⟩ := hrel
        have hB' := hB.size
        by_cases hlt : i < 8
        · obtain ⟨s, hs⟩ : ∃ s : Nat, (s : Int) = 56 - 8 * (i : Int) := ⟨56 - 8 * i, by omega⟩
          have hs64 : s ≤ 64 := by omega
          rw [← hs]
          obtain ⟨y, hy⟩ : ∃ y : Nat, y = v / 256 ^ (8 - 1 - i) % 256 := ⟨_, rfl⟩
          have hy2 : y < 256 := by omega
          have hp : (2 : Nat) ^ s = 256 ^ (8 - 1 - i) := by
            rw [show (256 : Nat) = 2 ^ 8 from rfl, ← Nat.pow_mul, show s = 8 * (8 - 1 - i) by omega]
          have hby : IntKind.u8.wrap ((v : Int) / 2 ^ s) = (y : Int) := by
            have e1 : (v : Int) / 2 ^ s = ((v / 2 ^ s : Nat) : Int) := by rw [Int.natCast_ediv, Int.natCast_pow]; rfl
            rw [e1, IntKind.wrap_u8, hy, hp]; omega
          have hby2 : (v : Int) / 2 ^ s % 256 = (y : Int) := by rw [← IntKind.wrap_u8]; exact hby
          have hstep : IntKind.i64.wrap ((s : Int) - 8) = 56 - 8 * ((i + 1 : Nat) : Int) := by rw [IntKind.wrap_i64]; omega
          have hOa := hO.alloc (.cells #[.int .u8 (y : Int)] 5)
          have hra := RB.new wr #[.int .u8 (y : Int)] 5 (0, 0) [y] rfl (by simpa using hy2)
          have HB := Lib.hid hB
          have HO := Lib.hid hO
          have HY := Lib.hid hy
          have HS := Lib.hid hs
          clear hB hO hp hy hs
          go_wp2_with (at_builtin; refine wpList_append_rb rfl (.tmp 29) (.tmp 34) rfl rfl rfl hOa hra (by simp; omega) (by simp; omega) ?_; intro A3 c3 w4 hO4 ho4 _)
          go_roundw
          case rel =>
            refine ⟨A3, c3, i + 1, by omega, rfl, rfl, ?_, below_app HB.out hB' HO.out ho4⟩
            have e : l0 ++ bebTo v 8 (i + 1) = l0 ++ bebTo v 8 i ++ [y] := by rw [bebTo_succ, HY.out, List.append_assoc]
            rw [e]; exact hO4
          case measure => simp [lenV]; omega
        · obtain rfl : i = 8 := by omega
          have HO := Lib.hid hO
          have HB := Lib.hid hB
          clear hO hB
          go_wp2
          go_ret
          refine ⟨A', n + 1 + j + 8, c', rfl, ?_, HB.out⟩
          have e : Sha.padded b = l0 ++ bebTo v 8 8 := by
            unfold Sha.padded
            rw [HLEN.out, ← HZ.out, ← HV.out, HL0.out]
            simp [beb]
          rw [e]; exact HO.out
end Go.Proofs.YtlhaempecidohaaGreatDoor
