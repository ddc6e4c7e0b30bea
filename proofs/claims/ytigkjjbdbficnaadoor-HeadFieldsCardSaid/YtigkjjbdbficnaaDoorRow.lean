/-
  Words for memory: a slice of texts, read; one of the call's own; an append onto it.
-/
import Derived.Test.YtigkjjbdbficnaaDoorStr
namespace Go.Proofs.YtigkjjbdbficnaaDoor
open Go.RowKit

def sv (ss : List ByteArray) : List Value := ss.map Value.string
theorem sv_append (a b : List ByteArray) : sv (a ++ b) = sv a ++ sv b := by simp [sv]
theorem sv_length (l : List ByteArray) : (sv l).length = l.length := by simp [sv]

/-- The slice value '.slice A n c' reads, in w, as the texts ss. -/
def RS (w : World) (A : Option Addr) (n : Nat) (ss : List ByteArray) : Prop :=
  ss.length = n ∧ (0 < n → ∃ ad, A = some ad ∧ ∀ (j : Nat) (s : ByteArray), ss[j]? = some s → w.cell? (ad.add j) = some (.string s))
theorem RS.at_ {w : World} {A : Option Addr} {n : Nat} {ss : List ByteArray} (h : RS w A n ss) {k : Nat} (hk : k < n) :
    ∃ ad s, A = some ad ∧ ss[k]? = some s ∧ w.cell? (ad.add k) = some (.string s) := by
  obtain ⟨h1, h3⟩ := h
  obtain ⟨ad, e, hc⟩ := h3 (by omega)
  have hl : k < ss.length := by omega
  exact ⟨ad, ss[k], e, List.getElem?_eq_getElem hl, hc k _ (List.getElem?_eq_getElem hl)⟩
theorem RS.below {w w' : World} {A : Option Addr} {n : Nat} {ss : List ByteArray} (h : RS w A n ss) (hb : Below w.heap.size w w') : RS w' A n ss := by
  obtain ⟨h1, h3⟩ := h
  refine ⟨h1, fun hn => ?_⟩
  obtain ⟨ad, e, hc⟩ := h3 hn
  exact ⟨ad, e, fun j x hj => cell_later hb (hc j x hj)⟩
theorem RS.nil (w : World) (A : Option Addr) : RS w A 0 [] := ⟨rfl, fun h => absurd h (by omega)⟩
theorem RS.new (w : World) (cs : Array Value) (t : TypeId) (fr : Nat × Nat) (ss : List ByteArray) (h : cs.toList = sv ss) :
    RS (w.alloc (.cells cs t fr)) (some ⟨w.heap.size, 0, none⟩) ss.length ss := by
  refine ⟨rfl, fun _ => ⟨_, rfl, fun j x hj => ?_⟩⟩
  have e : cs[j]? = some (.string x) := by
    rw [← Array.getElem?_toList, h, sv, List.getElem?_map, hj]; rfl
  have e2 : (⟨w.heap.size, 0, none⟩ : Addr).add j = ⟨w.heap.size, j, none⟩ := by
    by_cases h0 : j = 0
    · subst h0; rfl
    · simp [Addr.add, h0]
  rw [e2, cell_of_row _ _ _ cs t fr (heap_alloc_new w _), e]

/-- '.slice A n c' is a row of texts of the call's own, from block 'base' on. -/
def OwnS (w : World) (base : Nat) (A : Option Addr) (n c : Nat) (ss : List ByteArray) : Prop := ss.length = n ∧ w.ownsRow base 9 1 (.slice A n c) n (sv ss)
section
variable {w w' : World} {base n c : Nat} {A : Option Addr} {ss : List ByteArray}
theorem OwnS.nil (w : World) (base : Nat) : OwnS w base none 0 0 [] := ⟨rfl, World.ownsRow_nil _ _ _ _⟩
theorem OwnS.read (h : OwnS w base A n c ss) : RS w A n ss := by
  obtain ⟨h1, h3⟩ := h
  refine ⟨h1, fun hn => ?_⟩
  obtain ⟨g, cap, hv, _, _⟩ := h3.form hn
  injection hv with hA _ _
  refine ⟨_, hA, fun j x hj => h3.cells (g := g) (by rw [hA]; rfl) j _ ?_⟩
  rw [sv, List.getElem?_map, hj]
  rfl
theorem OwnS.le (h : OwnS w base A n c ss) : n ≤ c := by
  rcases h.2.2 with ⟨hv, rfl⟩ | ⟨g, cap, cur, hv, _, _, hle, _⟩
  · omega
  · injection hv with _ _ hc; omega
theorem OwnS.some_ (h : OwnS w base A n c ss) (hn : 0 < n) : ∃ g, A = some ⟨g, 0, none⟩ ∧ g < w.heap.size := by
  obtain ⟨g, cap, hv, _, hg⟩ := h.2.form hn
  injection hv with hA _ _
  exact ⟨g, hA, hg⟩
theorem OwnS.lt (h : OwnS w base A n c ss) : ∀ k, blk A = some k → base ≤ k ∧ k < w.heap.size := fun k hk => h.2.lt k (by rw [ownBlock_slice]; exact hk)
theorem OwnS.only {S : Nat → Prop} (h : OwnS w base A n c ss) (ho : Only S w w') (hs : ∀ k, blk A = some k → ¬ S k) : OwnS w' base A n c ss := by
  refine ⟨h.1, h.2.1, ?_⟩
  rcases h.2.2 with hn | ⟨g, cap, cur, hv, hb, hh, r⟩
  · exact .inl hn
  · refine .inr ⟨g, cap, cur, hv, hb, ?_, r⟩
    refine ho.heap hh (hs g ?_)
    injection hv with hA _ _
    subst hA
    rfl
theorem OwnS.below (h : OwnS w base A n c ss) (hb : Below w.heap.size w w') : OwnS w' base A n c ss := h.only (Only.of_below hb (fun _ => False)) (fun _ _ h => h)
end
theorem Tryd.info9 : (Tryd.prog.info? 9).map (fun i => (i.zero, i.size, i.bytes)) = some (some (.string ⟨#[]⟩), 1, 16) := by kernel_rfl
theorem sv_one (l : List ByteArray) : ∀ u ∈ sv l, u.oneCell' = true := by
  intro u hu
  simp only [sv, List.mem_map] at hu
  obtain ⟨x, _, rfl⟩ := hu
  rfl

theorem wpList_append_s {w : World} {ops : Array Oper} {rest : List Oper} {o : Oper} {a : Act} {Q : Exit → Act → World → Prop} (hgd : o.guard = none) (s x : Operand)
    (ho : o.op = .call { callee := .builtin .append, args := #[s, x], argTypes := #[30, 30] })
    {base : Nat} {A : Option Addr} {n c : Nat} {l : List ByteArray} {X : Addr} {m cx : Nat} {news : List ByteArray}
    (hs : a.eval s = .slice A n c) (hx : a.eval x = .slice (some X) m cx) (hown : OwnS w base A n c l) (hr : RS w (some X) m news) (hm : 0 < m) (hlen : n + m ≤ 1000000) (hbase : base ≤ w.heap.size)
    (h : ∀ A' c' w', OwnS w' base A' (n + m) c' (l ++ news) → Only (fun k => blk A = some k) w w' → (blk A' = blk A ∨ blk A' = some w.heap.size) → wpList Tryd.prog ops Q rest (a.put o.dst (.slice A' (n + m) c')) w') :
    wpList Tryd.prog ops Q (o :: rest) a w := by
  obtain ⟨i, hi, hz0, hz1, hz2⟩ := info_parts Tryd.info9
  have hcells : ∀ (j : Nat) u, (sv news)[j]? = some u → w.cell? (X.add j) = some u := by
    intro j u hu
    obtain ⟨ad', h, hc⟩ := hr.2 hm
    injection h with h
    subst h
    simp only [sv, List.getElem?_map, Option.map_eq_some_iff] at hu
    obtain ⟨x, hx, rfl⟩ := hu
    exact hc j x hx
  obtain ⟨v', w', hrun, h2, h3, _, h5⟩ := run_append_own_at (P := Tryd.prog) w base 30 o.type 9 i (.string ⟨#[]⟩) 1 16 Tryd.underlying30 hi hz0 hz1 hz2 rfl (by decide) _ n _ hown.2 X m cx (sv news)
    (by rw [sv_length, hr.1]; omega) hcells (sv_one _) (by unfold maxLen; omega) (by omega) hbase
  rw [← sv_append] at h2
  have hex : ∃ A' c', v' = .slice A' (n + m) c' := by
    rcases h2.2 with ⟨hv, h0⟩ | ⟨g, cap, cur, hv, _⟩
    · exact ⟨none, 0, by rw [hv, h0]⟩
    · exact ⟨_, _, hv⟩
  obtain ⟨A', c', hv⟩ := hex
  subst hv
  rw [ownBlock_slice, ownBlock_slice] at h5
  rw [ownBlock_slice] at h3
  refine wpList_plain hgd fun _ hK => ?_
  unfold Oper.wp execOp
  simp only [ho, resolve, invoke, builtin, Sem.run_bind, Sem.run_pure, Result.andThen_ok, List.map_toArray, List.map_cons, List.map_nil, hs, hx, hrun]
  exact hK _ _ (h A' c' w' ⟨by rw [List.length_append, hown.1, hr.1], h2⟩ (Only.of_grown h3 (fun k hk => hk)) h5)
end Go.Proofs.YtigkjjbdbficnaaDoor
