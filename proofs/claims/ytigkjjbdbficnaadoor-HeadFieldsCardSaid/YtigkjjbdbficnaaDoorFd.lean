/-
  Slices of fields: what a row of them holds, an append of one, a value that is written over.
-/
import Derived.Test.YtigkjjbdbficnaaDoorLn
import Derived.Deep.AppendLies
import Derived.Great.BuildSlice
namespace Go.Proofs.YtigkjjbdbficnaaDoor
open Go.RowKit

def fcells (f : F) : List Value := [.string (st f.1), .string (st f.2)]
def frows (fs : List F) : List Value := fs.flatMap fcells
theorem frows_len (fs : List F) : (frows fs).length = fs.length * 2 := by
  induction fs with
  | nil => rfl
  | cons e es ih => simp only [frows, List.flatMap_cons, List.length_append, List.length_cons] at *; rw [ih]; simp [fcells]; omega
theorem frows_snoc (fs : List F) (f : F) : frows (fs ++ [f]) = frows fs ++ fcells f := by simp [frows]
theorem frows_get (fs : List F) (j : Nat) (f : F) (h : fs[j]? = some f) : (frows fs)[j * 2]? = some (.string (st f.1)) ∧ (frows fs)[j * 2 + 1]? = some (.string (st f.2)) := by
  induction fs generalizing j with
  | nil => cases h
  | cons x es ih =>
    match j with
    | 0 => cases h; exact ⟨rfl, rfl⟩
    | j + 1 =>
      have := ih j h
      rw [show (j + 1) * 2 = j * 2 + 2 by omega]
      exact this
theorem frows_set (fs : List F) (j : Nat) (f : F) (v : U) (h : fs[j]? = some f) : (frows fs).set (j * 2 + 1) (.string (st v)) = frows (fs.set j (f.1, v)) := by
  induction fs generalizing j with
  | nil => cases h
  | cons x es ih =>
    match j with
    | 0 => cases h; rfl
    | j + 1 =>
      have := ih j h
      rw [show (j + 1) * 2 + 1 = (j * 2 + 1) + 2 by omega, List.set_cons_succ]
      show _ = fcells x ++ frows (es.set j (f.1, v))
      rw [← this]
      rfl

/-- A row of fields of the call's own, of element type T. -/
def Fs (w : World) (base : Nat) (T : TypeId) (A : Option Addr) (n c : Nat) (fs : List F) : Prop :=
  fs.length = n ∧ w.ownsRow base T 2 (.slice A n c) n (frows fs)
section
variable {w w' : World} {base n c : Nat} {T : TypeId} {A : Option Addr} {fs : List F}
theorem Fs.nil (w : World) (base : Nat) (T : TypeId) : Fs w base T none 0 0 [] := ⟨rfl, World.ownsRow_nil _ _ _ _⟩
theorem Fs.lt (h : Fs w base T A n c fs) : ∀ k, blk A = some k → base ≤ k ∧ k < w.heap.size := fun k hk => h.2.lt k (by rw [ownBlock_slice]; exact hk)
theorem Fs.only {S : Nat → Prop} (h : Fs w base T A n c fs) (ho : Only S w w') (hA : ∀ k, blk A = some k → ¬ S k) : Fs w' base T A n c fs := by
  refine ⟨h.1, h.2.1, ?_⟩
  rcases h.2.2 with hn | ⟨g, cap, cur, hv, hb, hh, r⟩
  · exact .inl hn
  · refine .inr ⟨g, cap, cur, hv, hb, ?_, r⟩
    refine ho.heap hh (hA g ?_)
    have := congrArg Value.ownBlock hv
    rw [ownBlock_slice] at this
    exact this
theorem Fs.below (h : Fs w base T A n c fs) (hb : Below w.heap.size w w') : Fs w' base T A n c fs := h.only (Only.of_below hb (fun _ => False)) (fun _ _ h => h)
theorem Fs.le (h : Fs w base T A n c fs) : n ≤ c := by
  rcases h.2.2 with ⟨hv, rfl⟩ | ⟨g, cap, cur, hv, _, _, hle, _⟩
  · omega
  · injection hv with _ _ hc; omega
theorem Fs.max (h : Fs w base T A n c fs) : n ≤ maxLen := by
  rcases h.2.2 with ⟨hv, rfl⟩ | ⟨g, cap, cur, hv, _, _, hle, hmx, _⟩
  · exact Nat.zero_le _
  · exact Nat.le_trans hle hmx
theorem Fs.some_ (h : Fs w base T A n c fs) (hn : 0 < n) : ∃ g, A = some ⟨g, 0, none⟩ ∧ base ≤ g ∧ g < w.heap.size := by
  obtain ⟨g, cap, hv, hb, hg⟩ := h.2.form hn
  injection hv with hA _ _
  exact ⟨g, hA, hb, hg⟩
theorem Fs.at_ {g : Nat} (h : Fs w base T (some ⟨g, 0, none⟩) n c fs) {j : Nat} {f : F} (hj : fs[j]? = some f) :
    w.cell? ⟨g, j * 2, none⟩ = some (.string (st f.1)) ∧ w.cell? ⟨g, j * 2 + 1, none⟩ = some (.string (st f.2)) ∧ w.frozen? ⟨g, j * 2 + 1, none⟩ = false := by
  have hjn : j < n := by rw [← h.1]; exact (List.getElem?_eq_some_iff.1 hj).1
  obtain ⟨r1, r2⟩ := frows_get fs j f hj
  exact ⟨by rw [h.2.cellAt (j * 2) (by omega), r1], by rw [h.2.cellAt (j * 2 + 1) (by omega), r2], h.2.frozenAt _⟩
theorem Fs.set_ {g : Nat} (h : Fs w base T (some ⟨g, 0, none⟩) n c fs) {j : Nat} {f : F} (hj : fs[j]? = some f) (v : U) :
    Fs (w.setCell ⟨g, j * 2 + 1, none⟩ (.string (st v))) base T (some ⟨g, 0, none⟩) n c (fs.set j (f.1, v)) := by
  refine ⟨by rw [List.length_set]; exact h.1, ?_⟩
  rw [← frows_set fs j f v hj]
  exact (h.2.stored _ _).1
end

theorem wp_append_f {w : World} {ops : Array Oper} {rest : List Oper} {o : Oper} {a : Act} {Q : Exit → Act → World → Prop} (hgd : o.guard = none) (s x : Operand) (S T : TypeId)
    (hu : Tryd.prog.underlying S = some (.slice T)) (hi : (Tryd.prog.info? T).map (fun i => (i.zero, i.size, i.bytes)) = some (some (.agg #[.string ⟨#[]⟩, .string ⟨#[]⟩]), 2, 32))
    (ho : o.op = .call { callee := .builtin .append, args := #[s, x], argTypes := #[S, S] })
    {base : Nat} {A : Option Addr} {n c : Nat} {fs : List F} {g cx : Nat} {f : F} (hs : a.eval s = .slice A n c) (hx : a.eval x = .slice (some ⟨g, 0, none⟩) 1 cx) (hown : Fs w base T A n c fs)
    (hg : ∀ (j : Nat) u, (fcells f)[j]? = some u → w.cell? ⟨g, j, none⟩ = some u) (hlen : n ≤ 1000000) (hbase : base ≤ w.heap.size)
    (h : ∀ A' c' w', Fs w' base T A' (n + 1) c' (fs ++ [f]) → Only (fun k => blk A = some k) w w' → wpList Tryd.prog ops Q rest (a.put o.dst (.slice A' (n + 1) c')) w') :
    wpList Tryd.prog ops Q (o :: rest) a w := by
  refine wpList_plain hgd fun _ hK => ?_
  obtain ⟨i, hi, hz0, hz1, hz2⟩ := info_parts hi
  obtain ⟨v', w', hrun, h2, h3, _, h5⟩ := run_append_own_at (P := Tryd.prog) w base S o.type T i _ 2 32 hu hi hz0 hz1 hz2 rfl (by decide) _ n _ hown.2 ⟨g, 0, none⟩ 1 cx (fcells f) rfl
    (fun j u hu => by
      have hadd : (⟨g, 0, none⟩ : Addr).add j = ⟨g, j, none⟩ := by unfold Addr.add; split <;> simp_all
      rw [hadd]; exact hg j u hu)
    (by simp [fcells, Value.oneCell']) (by unfold maxLen; omega) (by omega) hbase
  rw [← frows_snoc] at h2
  have hex : ∃ A' c', v' = .slice A' (n + 1) c' := by
    rcases h2.2 with ⟨hv, h0⟩ | ⟨g, cap, cur, hv, _⟩
    · omega
    · exact ⟨_, _, hv⟩
  obtain ⟨A', c', hv⟩ := hex
  subst hv
  rw [ownBlock_slice] at h3
  have hK2 := hK _ _ (h A' c' w' ⟨by rw [List.length_append, hown.1]; rfl, h2⟩ (Only.of_grown h3 (fun k hk => hk)))
  unfold Oper.wp execOp
  simp only [ho, resolve, invoke, builtin, Sem.run_bind, Sem.run_pure, Result.andThen_ok, List.map_toArray, List.map_cons, List.map_nil, hs, hx, hrun]
  exact hK2

theorem inf43 : (Tryd.prog.info? 43).map (fun i => (i.zero, i.size, i.bytes)) = some (some (.agg #[.string ⟨#[]⟩, .string ⟨#[]⟩]), 2, 32) := by kernel_rfl
theorem inf33 : (Tryd.prog.info? 33).map (fun i => (i.zero, i.size, i.bytes)) = some (some (.agg #[.string ⟨#[]⟩, .string ⟨#[]⟩]), 2, 32) := by kernel_rfl
theorem und40 : Tryd.prog.underlying 40 = some (.slice 43) := by kernel_rfl
theorem und26 : Tryd.prog.underlying 26 = some (.slice 33) := by kernel_rfl
theorem built43 (a b : ByteArray) : Tryd.prog.built 43 [(0, .string a), (1, .string b)] = some #[.string a, .string b] := by kernel_rfl
theorem built33 (a b : ByteArray) : Tryd.prog.built 33 [(0, .string a), (1, .string b)] = some #[.string a, .string b] := by kernel_rfl
theorem new_cells (w : World) (T : TypeId) (f : F) : ∀ (j : Nat) u, (fcells f)[j]? = some u → (w.alloc (.cells #[.string (st f.1), .string (st f.2)] T)).cell? ⟨w.heap.size, j, none⟩ = some u := fun j u hu => by
  rw [cell_of_row _ _ j _ T (0, 0) (heap_alloc_new w _)]
  simpa [fcells] using hu
end Go.Proofs.YtigkjjbdbficnaaDoor
