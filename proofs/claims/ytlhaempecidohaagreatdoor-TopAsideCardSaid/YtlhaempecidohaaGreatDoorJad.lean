/-
  Words for memory, more: a slice of bytes of the call's own, and an append onto it; a world of which only some blocks have turned. bytes.Clone, slices.Clone: the same bytes in new memory. Package codec, type In: what each method does, over a plain state: the bytes that are left, and whether it is bad. Words for memory: rows of structs (k cells each): of the call's own, and read; append of one; a frame by blocks that hold no bytes. Words for memory: rows of structs, more: a struct stored into a row of the call's own, a shorter row, what 'clear' does behind it; bytes that stay.
-/
import Derived.Test.YtlhaempecidohaaGreatDoorProg
import Derived.Maps.AppendAt
import Derived.Deep.Draws
import Derived.Deep.AppendLies
import Derived.RegionTactic
import Derived.Test.YtlhaempecidohaaGreatDoorJac
import Derived.Lib.Hide
import Derived.Deep.MidRow
import Derived.Laws.ResultCell
set_option linter.unusedSimpArgs false
set_option linter.unusedVariables false
namespace Go.Proofs.YtlhaempecidohaaGreatDoor
open Go.RowKit
/-! ### Only the blocks of S, and new ones, have turned -/
structure Only (S : Nat → Prop) (w w' : World) : Prop where
  os : w'.os = w.os
  tape : w'.tape = w.tape
  output : w'.output = w.output
  size : w.heap.size ≤ w'.heap.size
  block : ∀ k, k < w.heap.size → ¬ S k → w'.heap[k]? = w.heap[k]?
section
variable {S S' : Nat → Prop} {a b c w w' : World}
theorem Only.refl (S : Nat → Prop) (w : World) : Only S w w := ⟨rfl, rfl, rfl, Nat.le_refl _, fun _ _ _ => rfl⟩
theorem Only.trans (h : Only S a b) (k : Only S' b c) (hs : ∀ i, i < a.heap.size → S' i → S i) : Only S a c :=
  ⟨k.os.trans h.os, k.tape.trans h.tape, k.output.trans h.output, Nat.le_trans h.size k.size,
    fun i hi hn => (k.block i (Nat.lt_of_lt_of_le hi h.size) (fun x => hn (hs i hi x))).trans (h.block i hi hn)⟩
theorem Only.mono (h : Only S a b) (hs : ∀ i, S i → S' i) : Only S' a b := ⟨h.os, h.tape, h.output, h.size, fun i hi hn => h.block i hi (fun x => hn (hs i x))⟩
theorem Only.drew (h : Only S a b) : Only S a b.drew := ⟨h.os, h.tape, h.output, h.size, h.block⟩
theorem Only.drewN (h : Only S a b) (n : Nat) : Only S a (b.drewN n) := ⟨h.os, h.tape, h.output, h.size, h.block⟩
theorem Only.alloc (h : Only S a b) (o : Obj) : Only S a (b.alloc o) :=
  ⟨h.os, h.tape, h.output, Nat.le_trans h.size (by simp), fun i hi hn => (Below.heap_alloc b o i (Nat.lt_of_lt_of_le hi h.size)).trans (h.block i hi hn)⟩
theorem Only.setCell (h : Only S a b) {p : Addr} (hp : S p.block ∨ a.heap.size ≤ p.block) (u : Value) : Only S a (b.setCell p u) :=
  ⟨h.os, h.tape, h.output, by simpa [World.setCell] using h.size, fun i hi hn => (Below.heap_setCell b p u i (by
    rintro rfl
    rcases hp with hp | hp
    · exact hn hp
    · omega)).trans (h.block i hi hn)⟩
theorem Only.of_below (h : Below a.heap.size a b) (S : Nat → Prop) : Only S a b := ⟨h.os, h.tape, h.output, h.size, fun i hi _ => h.block i hi⟩
theorem Only.of_grown {row : Option Nat} (h : a.grownBy b row) (hs : ∀ k, row = some k → S k) : Only S a b :=
  ⟨h.os, h.tape, h.output, h.size, fun i hi hn => h.block i hi (fun e => hn (hs i e.symm))⟩
theorem Only.below (h : Only S a b) {B : Nat} (hB : B ≤ a.heap.size) (hs : ∀ i, i < B → ¬ S i) : Below B a b :=
  ⟨h.os, h.tape, h.output, h.size, fun i hi => h.block i (Nat.lt_of_lt_of_le hi hB) (hs i hi)⟩
theorem Only.none_ (h : Only S a b) (hs : ∀ i, i < a.heap.size → ¬ S i) : Below a.heap.size a b := h.below (Nat.le_refl _) hs
theorem Only.cell (h : Only S a b) {p : Addr} {u : Value} (hc : a.cell? p = some u) (hp : ¬ S p.block) : b.cell? p = some u :=
  (World.cell?_of_block (h.block p.block (World.block_lt_of_cell? _ _ hc) hp)).trans hc
theorem Only.heap (h : Only S a b) {k : Nat} {o : Obj} (hk : a.heap[k]? = some o) (hp : ¬ S k) : b.heap[k]? = some o :=
  (h.block k (Array.getElem?_eq_some_iff.1 hk).1 hp).trans hk
end
/-! ### A slice of bytes, read: more -/
theorem Tryz.info5 : (Tryz.prog.info? 5).map (fun i => (i.zero, i.size, i.bytes)) = some (some (.int .u8 0), 1, 1) := by kernel_rfl
def blk (A : Option Addr) : Option Nat := A.map (·.block)
theorem RB.nil (w : World) (A : Option Addr) : RB w A 0 [] := ⟨rfl, by simp, fun h => absurd h (by omega)⟩
theorem RB.only {S : Nat → Prop} {w w' : World} {A : Option Addr} {n : Nat} {l : List Nat} (h : RB w A n l) (ho : Only S w w') (hs : ∀ k, blk A = some k → ¬ S k) : RB w' A n l := by
  obtain ⟨h1, h2, h3⟩ := h
  refine ⟨h1, h2, fun hn => ?_⟩
  obtain ⟨ad, rfl, hc⟩ := h3 hn
  refine ⟨ad, rfl, fun j x hj => ho.cell (hc j x hj) ?_⟩
  have : (ad.add j).block = ad.block := by unfold Addr.add; split <;> rfl
  rw [this]
  exact hs _ rfl
theorem add_add (a : Addr) (i j : Nat) : (a.add i).add j = a.add (i + j) := by
  unfold Addr.add
  by_cases hi : i = 0 <;> by_cases hj : j = 0 <;> simp [hi, hj, Nat.add_assoc]
theorem RB.take {w : World} {A : Option Addr} {n : Nat} {l : List Nat} (h : RB w A n l) {k : Nat} (hk : k ≤ n) : RB w A k (l.take k) := by
  obtain ⟨h1, h2, h3⟩ := h
  refine ⟨by rw [List.length_take]; omega, fun x hx => h2 x (List.mem_of_mem_take hx), fun hn => ?_⟩
  obtain ⟨ad, e, hc⟩ := h3 (by omega)
  refine ⟨ad, e, fun j x hj => hc j x ?_⟩
  have hjl : j < (l.take k).length := (List.getElem?_eq_some_iff.1 hj).1
  rw [List.length_take] at hjl
  rwa [List.getElem?_take_of_lt (by omega)] at hj
/-- Where a slice begins that is cut k elements on. -/
def cut (A : Option Addr) (c k : Nat) : Option Addr := if c = k then A else A.map (·.add k)
theorem RB.drop {w : World} {A : Option Addr} {n : Nat} {l : List Nat} (h : RB w A n l) {k cap : Nat} (hk : k ≤ n) (hc : n ≤ cap) : RB w (cut A cap k) (n - k) (l.drop k) := by
  obtain ⟨h1, h2, h3⟩ := h
  refine ⟨by rw [List.length_drop]; omega, fun x hx => h2 x (List.mem_of_mem_drop hx), fun hn => ?_⟩
  obtain ⟨ad, rfl, hcell⟩ := h3 (by omega)
  unfold cut
  rw [if_neg (by omega)]
  refine ⟨ad.add k, rfl, fun j x hj => ?_⟩
  rw [add_add]
  exact hcell _ x (by rw [← hj, List.getElem?_drop])
theorem Tryz.cellsOf5 : Tryz.prog.cellsOf 5 = 1 := by kernel_rfl
theorem slice_l (A : Option Addr) (n c k : Nat) (hk : k ≤ n) (w : World) :
    (Instr.slice 23 (.slice A n c) (some (.int .i64 (k : Int))) none none).run Tryz.prog w = .ok (.slice (cut A c k) (n - k) (c - k)) w := by
  obtain ⟨i, hi, -, hz1, -⟩ := info_parts Tryz.info5
  have := run_slice_l (P := Tryz.prog) (w := w) 23 A n c (by kernel_rfl) .i64 k (by omega) (by omega)
  rw [this]
  simp [sizeOf, typeInfo, hi, hz1, sliced, cut, Program.elem]
theorem slice_lh (A : Option Addr) (n c lo hi : Nat) (h1 : lo ≤ hi) (h2 : hi ≤ c) (w : World) :
    (Instr.slice 23 (.slice A n c) (some (.int .i64 (lo : Int))) (some (.int .i64 (hi : Int))) none).run Tryz.prog w = .ok (.slice (cut A c lo) (hi - lo) (c - lo)) w := by
  obtain ⟨i, hi', -, hz1, -⟩ := info_parts Tryz.info5
  have := run_slice_lh (P := Tryz.prog) (w := w) 23 A n c (by kernel_rfl) .i64 .i64 lo hi (by omega) (by omega) (by omega)
  rw [this]
  simp [sizeOf, typeInfo, hi', hz1, sliced, cut, Program.elem]
theorem RB.mid {w : World} {A : Option Addr} {n : Nat} {l : List Nat} (h : RB w A n l) {lo hi cap : Nat} (h1 : lo ≤ hi) (h2 : hi ≤ n) (hc : n ≤ cap) :
    RB w (cut A cap lo) (hi - lo) ((l.drop lo).take (hi - lo)) := (h.drop (k := lo) (by omega) hc).take (by omega)
theorem blk_set {w : World} {g : Nat} {t : TypeId} {cs : Array Value} (h : w.heap[g]? = some (.cells cs t (0, 0))) (i : Nat) (u : Value) :
    (w.setCell ⟨g, i, none⟩ u).heap[g]? = some (.cells (cs.setIfInBounds i u) t (0, 0)) := by
  simp [World.setCell, Array.getElem?_modify, h]
theorem only_set (w : World) (g i : Nat) (u : Value) : Only (fun k => k = g) w (w.setCell ⟨g, i, none⟩ u) := (Only.refl (fun k => k = g) w).setCell (p := ⟨g, i, none⟩) (.inl rfl) u
theorem Only.row {S : Nat → Prop} {w w' : World} {g : Nat} {t : TypeId} {cs : Array Value} (ho : Only S w w') (hg : w.heap[g]? = some (.cells cs t (0, 0))) (hs : ¬ S g) :
    (∀ i, w'.cell? ⟨g, i, none⟩ = cs[i]?) ∧ (∀ i, w'.frozen? ⟨g, i, none⟩ = false) ∧ w'.heap[g]? = some (.cells cs t (0, 0)) := by
  have h := ho.heap hg hs
  exact ⟨fun i => cell_of_row w' g i _ _ _ h, fun i => by simp [World.frozen?, h], h⟩
/-- A block that holds no bytes is none of a slice of bytes. -/
theorem RB.store {w w' : World} {A : Option Addr} {n g : Nat} {l : List Nat} {t : TypeId} {cs : Array Value} (h : RB w A n l) (hg : w.heap[g]? = some (.cells cs t (0, 0)))
    (hne : ∀ (j : Nat) (x : Int), cs[j]? ≠ some (.int .u8 x)) (ho : Only (fun k => k = g) w w') : RB w' A n l := by
  obtain ⟨h1, h2, h3⟩ := h
  refine ⟨h1, h2, fun hn => ?_⟩
  obtain ⟨ad, rfl, hc⟩ := h3 hn
  refine ⟨ad, rfl, fun j x hj => ho.cell (hc j x hj) ?_⟩
  intro e
  have hcell := hc j x hj
  have : (ad.add j).block = g := e
  have hh : w.heap[(ad.add j).block]? = some (.cells cs t (0, 0)) := by rw [this]; exact hg
  have hs := World.cell?_spot hcell
  generalize ad.add j = p at hcell hh hs
  obtain ⟨b, o, sp⟩ := p
  simp only at hs
  subst hs
  rw [cell_of_row w b o cs t (0, 0) hh] at hcell
  exact hne _ _ hcell
/-! ### A slice of bytes of the call's own -/
def bv (l : List Nat) : List Value := l.map fun (x : Nat) => Value.int .u8 (x : Int)
theorem bv_append (a b : List Nat) : bv (a ++ b) = bv a ++ bv b := by simp [bv]
theorem bv_length (l : List Nat) : (bv l).length = l.length := by simp [bv]
/-- '.slice A n c' is a row of the call's own, from block 'base' on, of element type 5 (bytes), and holds l. -/
def Own (w : World) (base : Nat) (A : Option Addr) (n c : Nat) (l : List Nat) : Prop :=
  l.length = n ∧ (∀ x ∈ l, x < 256) ∧ w.ownsRow base 5 1 (.slice A n c) n (bv l)
theorem ownBlock_slice (A : Option Addr) (n c : Nat) : (Value.slice A n c).ownBlock = blk A := by cases A <;> rfl
section
variable {w w' : World} {base n c : Nat} {A : Option Addr} {l : List Nat}
theorem Own.nil (w : World) (base : Nat) : Own w base none 0 0 [] := ⟨rfl, by simp, World.ownsRow_nil _ _ _ _⟩
theorem Own.read (h : Own w base A n c l) : RB w A n l := by
  obtain ⟨h1, h2, h3⟩ := h
  refine ⟨h1, h2, fun hn => ?_⟩
  obtain ⟨g, cap, hv, _, _⟩ := h3.form hn
  injection hv with hA _ _
  refine ⟨_, hA, fun j x hj => h3.cells (g := g) (by rw [hA]; rfl) j _ ?_⟩
  rw [bv, List.getElem?_map, hj]
  rfl
theorem Own.le (h : Own w base A n c l) : n ≤ c := by
  rcases h.2.2.2 with ⟨hv, rfl⟩ | ⟨g, cap, cur, hv, _, _, hle, _⟩
  · omega
  · injection hv with _ _ hc; omega
theorem Own.lt (h : Own w base A n c l) : ∀ k, blk A = some k → base ≤ k ∧ k < w.heap.size := fun k hk => h.2.2.lt k (by rw [ownBlock_slice]; exact hk)
theorem Own.type (h : Own w base A n c l) : ∀ k, blk A = some k → ∃ cs, w.heap[k]? = some (.cells cs 5 (0, 0)) := by
  intro k hk
  rcases h.2.2.2 with ⟨hv, rfl⟩ | ⟨g, cap, cur, hv, _, hh, _⟩
  · injection hv with hA _ _; subst hA; simp [blk] at hk
  · injection hv with hA _ _; subst hA
    simp [blk] at hk
    subst hk
    exact ⟨_, hh⟩
theorem Own.only {S : Nat → Prop} (h : Own w base A n c l) (ho : Only S w w') (hs : ∀ k, blk A = some k → ¬ S k) : Own w' base A n c l := by
  refine ⟨h.1, h.2.1, h.2.2.1, ?_⟩
  rcases h.2.2.2 with hn | ⟨g, cap, cur, hv, hb, hh, r⟩
  · exact .inl hn
  · refine .inr ⟨g, cap, cur, hv, hb, ?_, r⟩
    refine ho.heap hh (hs g ?_)
    injection hv with hA _ _
    subst hA
    rfl
theorem Own.more (h : Own w base A n c l) {B : Nat} (hB : ∀ k, blk A = some k → B ≤ k) : Own w B A n c l := by
  refine ⟨h.1, h.2.1, h.2.2.1, ?_⟩
  rcases h.2.2.2 with hn | ⟨g, cap, cur, hv, hb, r⟩
  · exact .inl hn
  · injection hv with hA _ hc
    subst hA
    subst hc
    exact .inr ⟨g, _, cur, rfl, hB g rfl, r⟩
theorem Own.alloc (h : Own w base A n c l) (o : Obj) : Own (w.alloc o) base A n c l := h.only ((Only.refl (fun _ => False) w).alloc o) (fun _ _ h => h)
theorem Own.drew (h : Own w base A n c l) : Own w.drew base A n c l := h
theorem Own.drewN (h : Own w base A n c l) (k : Nat) : Own (w.drewN k) base A n c l := h
/-- A new row of bytes that was laid just now, not full. -/
theorem Own.made (w : World) (cs : Array Value) (cap : Nat) (hb : base ≤ w.heap.size) (hm : cap ≤ maxLen) (hs : cs.size = cap) :
    Own (w.alloc (.cells cs 5)) base (some ⟨w.heap.size, 0, none⟩) 0 cap [] :=
  ⟨rfl, by simp, World.ownsRow_made w cs cap hb hm (by rw [hs, Nat.mul_one])⟩
end
section
variable {w : World} {base n c g : Nat} {l : List Nat}
theorem Own.cellAt (h : Own w base (some ⟨g, 0, none⟩) n c l) {j x : Nat} (hj : l[j]? = some x) : w.cell? ⟨g, j, none⟩ = some (.int .u8 (x : Int)) := by
  have hjl : j < l.length := (List.getElem?_eq_some_iff.1 hj).1
  rw [h.2.2.cellAt j (by rw [h.1] at hjl; omega), bv, List.getElem?_map, hj]
  rfl
theorem Own.frozenAt (h : Own w base (some ⟨g, 0, none⟩) n c l) (j : Nat) : w.frozen? ⟨g, j, none⟩ = false := h.2.2.frozenAt j
theorem Own.set_ (h : Own w base (some ⟨g, 0, none⟩) n c l) (j y : Nat) (hy : y < 256) : Own (w.setCell ⟨g, j, none⟩ (.int .u8 (y : Int))) base (some ⟨g, 0, none⟩) n c (l.set j y) := by
  refine ⟨by rw [List.length_set]; exact h.1, ?_, ?_⟩
  · intro x hx
    rcases List.mem_or_eq_of_mem_set hx with h1 | h1
    · exact h.2.1 x h1
    · rw [h1]; exact hy
  · have := h.2.2.stored j (.int .u8 (y : Int))
    rw [show (bv l).set j (.int .u8 (y : Int)) = bv (l.set j y) from by simp [bv, List.map_set]] at this
    exact this.1
/-- make([]byte, n) -/
theorem Own.of_made {w' : World} (h : w'.ownsRow base 5 1 (.slice (some ⟨g, 0, none⟩) n n) n (madeCells (Value.int .u8 0).cells (n * 1)).toList) : Own w' base (some ⟨g, 0, none⟩) n n (List.replicate n 0) := by
  refine ⟨by simp, by simp, ?_⟩
  have e : (madeCells (Value.int .u8 0).cells (n * 1)).toList = bv (List.replicate n 0) := by
    simp [madeCells, bv, Value.cells, Nat.mod_one]
    apply List.eq_replicate_iff.2
    simp
  rw [e] at h
  exact h
end
/-- A row of bytes that was laid just now, full. -/
theorem Own.lit (w : World) (base : Nat) (cs : Array Value) (m : Nat) (l : List Nat) (h : cs.toList = bv l) (hl : l.length = m) (hx : ∀ x ∈ l, x < 256) (hb : base ≤ w.heap.size) (hm : m ≤ maxLen) :
    Own (w.alloc (.cells cs 5)) base (some ⟨w.heap.size, 0, none⟩) m m l := by
  have hs : cs.size = m := by rw [← Array.length_toList, h, bv_length, hl]
  refine ⟨hl, hx, by rw [bv_length, hl, Nat.mul_one], .inr ⟨w.heap.size, m, cs, rfl, hb, heap_alloc_new w _, Nat.le_refl _, hm, by rw [hs, Nat.mul_one], ?_⟩⟩
  rw [← h, List.take_of_length_le (by rw [Array.length_toList, hs, Nat.mul_one]; exact Nat.le_refl _)]
/-! ### append -/
theorem bv_one (l : List Nat) : ∀ u ∈ bv l, u.oneCell' = true := by
  intro u hu
  simp only [bv, List.mem_map] at hu
  obtain ⟨x, _, rfl⟩ := hu
  rfl
theorem run_append_nil (w : World) (base : Nat) (ty : TypeId) (v : Value) (n : Nat) (xs : List Value) (hown : w.ownsRow base 5 1 v n xs) (c : Nat) :
    (Builtin.append_ #[23, 23] ty #[v, .slice none 0 c]).run Tryz.prog w = .ok v w := by
  obtain ⟨i, hi, -, hz1, -⟩ := info_parts Tryz.info5
  rcases hown.2 with ⟨rfl, rfl⟩ | ⟨g, cap, cur, rfl, _, _, hnc, _⟩
  · simp [Builtin.append_, run_underlying Tryz.underlying23, sizeOf, typeInfo, hi, Builtin.lenOf, Builtin.firstCells]
  · simp [Builtin.append_, run_underlying Tryz.underlying23, sizeOf, typeInfo, hi, Builtin.lenOf, Builtin.firstCells, hnc, storeCells]
set_option maxRecDepth 100000 in
theorem run_append_rb (w : World) (ty : TypeId) {base : Nat} {A : Option Addr} {n c : Nat} {l : List Nat} (hown : Own w base A n c l)
    {X : Option Addr} {m cx : Nat} {news : List Nat} (hr : RB w X m news) (hlen : n + m ≤ 20000000) (hbase : base ≤ w.heap.size) :
    ∃ A' c' w', (Builtin.append_ #[23, 23] ty #[.slice A n c, .slice X m cx]).run Tryz.prog w = .ok (.slice A' (n + m) c') w' ∧ Own w' base A' (n + m) c' (l ++ news) ∧
      Only (fun k => blk A = some k) w w' ∧ (blk A' = blk A ∨ blk A' = some w.heap.size) := by
  obtain ⟨i, hi, hz0, hz1, hz2⟩ := info_parts Tryz.info5
  have hb : ∀ x ∈ l ++ news, x < 256 := by
    intro x hx
    rcases List.mem_append.1 hx with h | h
    · exact hown.2.1 x h
    · exact hr.2.1 x h
  have hll : (l ++ news).length = n + m := by rw [List.length_append, hown.1, hr.1]
  rcases X with _ | ad
  · have hm : m = 0 := by
      rcases Nat.eq_zero_or_pos m with h0 | h0
      · exact h0
      · obtain ⟨ad, h, _⟩ := hr.2.2 h0
        cases h
    subst hm
    have hn : news = [] := List.eq_nil_of_length_eq_zero hr.1
    subst hn
    exact ⟨A, c, w, run_append_nil w base ty _ n _ hown.2.2 cx, by simpa using hown, Only.refl _ _, .inl rfl⟩
  · have hcells : ∀ (j : Nat) u, (bv news)[j]? = some u → w.cell? (ad.add j) = some u := by
      intro j u hu
      rcases Nat.eq_zero_or_pos m with h0 | h0
      · subst h0
        have hn : news = [] := List.eq_nil_of_length_eq_zero hr.1
        subst hn
        simp [bv] at hu
      · obtain ⟨ad', h, hc⟩ := hr.2.2 h0
        injection h with h
        subst h
        simp only [bv, List.getElem?_map, Option.map_eq_some_iff] at hu
        obtain ⟨x, hx, rfl⟩ := hu
        exact hc j x hx
    obtain ⟨v', w', hrun, h2, h3, _, h5⟩ := run_append_own_at (P := Tryz.prog) w base 23 ty 5 i (.int .u8 0) 1 1 Tryz.underlying23 hi hz0 hz1 hz2 rfl (by decide) _ n _ hown.2.2 ad m cx (bv news)
      (by rw [bv_length, hr.1]; omega) hcells (bv_one _) (by unfold maxLen; omega) (by omega) hbase
    rw [← bv_append] at h2
    have hex : ∃ A' c', v' = .slice A' (n + m) c' := by
      rcases h2.2 with ⟨hv, h0⟩ | ⟨g, cap, cur, hv, _⟩
      · exact ⟨none, 0, by rw [hv, h0]⟩
      · exact ⟨_, _, hv⟩
    obtain ⟨A', c', hv⟩ := hex
    subst hv
    rw [ownBlock_slice, ownBlock_slice] at h5
    rw [ownBlock_slice] at h3
    exact ⟨A', c', w', hrun, ⟨hll, hb, h2⟩, Only.of_grown h3 (fun k hk => hk), h5⟩
theorem wp_append_rb {w : World} {o : Oper} {a : Act} {K : Act → World → Prop} {Q : Exit → Act → World → Prop} (s x : Operand)
    (ho : o.op = .call { callee := .builtin .append, args := #[s, x], argTypes := #[23, 23] })
    {base : Nat} {A : Option Addr} {n c : Nat} {l : List Nat} {X : Option Addr} {m cx : Nat} {news : List Nat}
    (hs : a.eval s = .slice A n c) (hx : a.eval x = .slice X m cx) (hown : Own w base A n c l) (hr : RB w X m news) (hlen : n + m ≤ 20000000) (hbase : base ≤ w.heap.size)
    (h : ∀ A' c' w', Own w' base A' (n + m) c' (l ++ news) → Only (fun k => blk A = some k) w w' → (blk A' = blk A ∨ blk A' = some w.heap.size) → K (a.put o.dst (.slice A' (n + m) c')) w') :
    o.wp Tryz.prog a w K Q := by
  obtain ⟨A', c', w', hrun, h2, h3, h4⟩ := run_append_rb w o.type hown (cx := cx) hr hlen hbase
  unfold Oper.wp execOp
  simp only [ho, resolve, invoke, builtin, Sem.run_bind, Sem.run_pure, Result.andThen_ok, List.map_toArray, List.map_cons, List.map_nil, hs, hx, hrun]
  exact h A' c' w' h2 h3 h4
theorem wpList_append_rb {w : World} {ops : Array Oper} {rest : List Oper} {o : Oper} {a : Act} {Q : Exit → Act → World → Prop} (hgd : o.guard = none) (s x : Operand)
    (ho : o.op = .call { callee := .builtin .append, args := #[s, x], argTypes := #[23, 23] })
    {base : Nat} {A : Option Addr} {n c : Nat} {l : List Nat} {X : Option Addr} {m cx : Nat} {news : List Nat}
    (hs : a.eval s = .slice A n c) (hx : a.eval x = .slice X m cx) (hown : Own w base A n c l) (hr : RB w X m news) (hlen : n + m ≤ 20000000) (hbase : base ≤ w.heap.size)
    (h : ∀ A' c' w', Own w' base A' (n + m) c' (l ++ news) → Only (fun k => blk A = some k) w w' → (blk A' = blk A ∨ blk A' = some w.heap.size) → wpList Tryz.prog ops Q rest (a.put o.dst (.slice A' (n + m) c')) w') :
    wpList Tryz.prog ops Q (o :: rest) a w :=
  wpList_plain hgd fun _ hK => wp_append_rb s x ho hs hx hown hr hlen hbase fun A' c' w' h2 h3 h4 => hK _ _ (h A' c' w' h2 h3 h4)
theorem step_append_rb {w : World} {ops : Array Oper} {o : Oper} {a : Act} {K : Act → World → Prop} {Q : Exit → Act → World → Prop} {E : Prop} (hgd : o.guard = none) (s x : Operand)
    (ho : o.op = .call { callee := .builtin .append, args := #[s, x], argTypes := #[23, 23] })
    {base : Nat} {A : Option Addr} {n c : Nat} {l : List Nat} {X : Option Addr} {m cx : Nat} {news : List Nat}
    (hs : a.eval s = .slice A n c) (hx : a.eval x = .slice X m cx) (hown : Own w base A n c l) (hr : RB w X m news) (hlen : n + m ≤ 20000000) (hbase : base ≤ w.heap.size)
    (h : ∀ A' c' w', Own w' base A' (n + m) c' (l ++ news) → Only (fun k => blk A = some k) w w' → (blk A' = blk A ∨ blk A' = some w.heap.size) → K (a.put o.dst (.slice A' (n + m) c')) w') :
    if Region.wanted o (yielded ops a.tmps) = true then Oper.wp Tryz.prog o a w K Q else E := by
  have hw : Region.wanted o (yielded ops a.tmps) = true := by simp [Region.wanted, hgd]
  rw [if_pos hw]
  exact wp_append_rb s x ho hs hx hown hr hlen hbase h
end Go.Proofs.YtlhaempecidohaaGreatDoor
namespace Go.Proofs.YtlhaempecidohaaGreatDoor
open Go.RowKit
/-- What a clone leaves. -/
def Cloned (w : World) (n : Nat) (l : List Nat) (e : Ending) (w' : World) : Prop :=
  ∃ A' c', e = .returned (.slice A' n c') ∧ Own w' w.heap.size A' n c' l ∧ Below w.heap.size w w'
set_option maxHeartbeats 400000 in
theorem bclone (A : Option Addr) (n c : Nat) (l : List Nat) (w : World) (h : RB w A n l) (hn : n ≤ 10000000) :
    Calls Tryz.prog 26 #[.slice A n c] w (Cloned w n l) := by
  have q := fun (w : World) (a : Option Addr) (n c : Nat) => Lib.run_eql_slice_nil (P := Tryz.prog) w 23 5 a n c 0 0 Tryz.underlying23
  rcases A with _ | ad
  · have h0 : n = 0 := by
      rcases Nat.eq_zero_or_pos n with h0 | h0
      · exact h0
      · obtain ⟨ad, e, _⟩ := h.2.2 h0
        cases e
    subst h0
    obtain rfl : l = [] := List.eq_nil_of_length_eq_zero h.1
    go_enter Tryz.func26, Tryz.ntmps26
    go_wp2
    go_ret
    exact ⟨none, 0, rfl, Own.nil _ _, Below.refl _ _⟩
  · have hown : Own (w.alloc (.cells #[] 5)) w.heap.size (some ⟨w.heap.size, 0, none⟩) 0 0 [] := Own.made w #[] 0 (Nat.le_refl _) (by unfold maxLen; omega) rfl
    have hr : RB (w.alloc (.cells #[] 5)) (some ad) n l := h.below ((Below.refl _ _).alloc (Nat.le_refl _) _)
    go_enter Tryz.func26, Tryz.ntmps26
    go_wp2_with (at_builtin; refine wpList_append_rb rfl _ _ rfl rfl rfl hown hr (by omega) (by simp) ?_; intro A' c' w1 hown1 honly hblk; simp only [Nat.zero_add, List.nil_append] at hown1; rw [Nat.zero_add])
    go_ret
    exact ⟨A', c', rfl, hown1, ((Below.refl _ _).alloc (Nat.le_refl _) _).trans (honly.below (by simp) (fun i hi e => by simp [blk] at e; omega))⟩
set_option maxHeartbeats 400000 in
theorem sclone (A : Option Addr) (n c : Nat) (l : List Nat) (w : World) (h : RB w A n l) (hn : n ≤ 10000000) :
    Calls Tryz.prog 53 #[.slice A n c] w (Cloned w n l) := by
  have q := fun (w : World) (a : Option Addr) (n c : Nat) => Lib.run_eql_slice_nil (P := Tryz.prog) w 23 5 a n c 0 0 Tryz.underlying23
  rcases A with _ | ad
  · have h0 : n = 0 := by
      rcases Nat.eq_zero_or_pos n with h0 | h0
      · exact h0
      · obtain ⟨ad, e, _⟩ := h.2.2 h0
        cases e
    subst h0
    obtain rfl : l = [] := List.eq_nil_of_length_eq_zero h.1
    go_enter Tryz.func53, Tryz.ntmps53
    go_wp2
    go_ret
    exact ⟨none, 0, rfl, Own.nil _ _, Below.refl _ _⟩
  · have hown : Own (w.alloc (.cells #[] 5)) w.heap.size (some ⟨w.heap.size, 0, none⟩) 0 0 [] := Own.made w #[] 0 (Nat.le_refl _) (by unfold maxLen; omega) rfl
    have hr : RB (w.alloc (.cells #[] 5)) (some ad) n l := h.below ((Below.refl _ _).alloc (Nat.le_refl _) _)
    go_enter Tryz.func53, Tryz.ntmps53
    go_wp2_with (at_builtin; refine wpList_append_rb rfl _ _ rfl rfl rfl hown hr (by omega) (by simp) ?_; intro A' c' w1 hown1 honly hblk; simp only [Nat.zero_add, List.nil_append] at hown1; rw [Nat.zero_add])
    go_ret
    exact ⟨A', c', rfl, hown1, ((Below.refl _ _).alloc (Nat.le_refl _) _).trans (honly.below (by simp) (fun i hi e => by simp [blk] at e; omega))⟩
end Go.Proofs.YtlhaempecidohaaGreatDoor
namespace Go.Proofs.YtlhaempecidohaaGreatDoor
open Go.RowKit
/-- The state of an In. -/
structure InM where
  l : List Nat
  bad : Bool
def InM.ok (i : InM) (n : Int) : Bool := !i.bad && decide (0 ≤ n) && decide (n ≤ i.l.length)
def InM.got (i : InM) (n : Int) : List Nat := if i.ok n then i.l.take n.toNat else []
def InM.rest (i : InM) (n : Int) : InM := if i.ok n then ⟨i.l.drop n.toNat, false⟩ else ⟨[], true⟩
/-- Block g is an In in state i; what it reads lies in blocks of K. -/
def InP (K : Nat → Prop) (w : World) (g : Nat) (i : InM) : Prop :=
  ∃ A n c, w.heap[g]? = some (.cells #[.slice A n c, .bool i.bad] 270 (0, 0)) ∧ RB w A n i.l ∧ n ≤ c ∧ (i.bad = true → i.l = []) ∧ ∀ q, blk A = some q → K q
abbrev InS (w : World) (g : Nat) (i : InM) : Prop := InP (fun _ => True) w g i
theorem InP.below {K : Nat → Prop} {w w' : World} {g : Nat} {i : InM} (h : InP K w g i) (hb : Below w.heap.size w w') : InP K w' g i := by
  obtain ⟨A, n, c, h1, h2, h3, h4⟩ := h
  exact ⟨A, n, c, (hb.block g (Array.getElem?_eq_some_iff.1 h1).1).trans h1, h2.below hb, h3, h4⟩
theorem InS.below {w w' : World} {g : Nat} {i : InM} (h : InS w g i) (hb : Below w.heap.size w w') : InS w' g i := InP.below h hb
theorem InP.mono {K K' : Nat → Prop} {w : World} {g : Nat} {i : InM} (h : InP K w g i) (hk : ∀ q, K q → K' q) : InP K' w g i := by
  obtain ⟨A, n, c, h1, h2, h3, h4, h5⟩ := h
  exact ⟨A, n, c, h1, h2, h3, h4, fun q hq => hk q (h5 q hq)⟩
theorem blk_cut {A : Option Addr} {c k q : Nat} (h : blk (cut A c k) = some q) : blk A = some q := by
  unfold cut at h
  split at h
  · exact h
  · cases A with
    | none => cases h
    | some a =>
      rw [← h]
      have : (a.add k).block = a.block := by unfold Addr.add; split <;> rfl
      show some a.block = some (a.add k).block
      rw [this]
/-- a new In, which reads blocks of its own -/
def NewIn (w : World) (l : List Nat) (e : Ending) (w' : World) : Prop :=
  ∃ g, e = .returned (.pointer (some ⟨g, 0, none⟩)) ∧ w.heap.size ≤ g ∧ InS w' g ⟨l, false⟩ ∧ Below w.heap.size w w' ∧ InP (fun q => w.heap.size ≤ q ∧ q < g) w' g ⟨l, false⟩
set_option maxHeartbeats 400000 in
theorem newIn (A : Option Addr) (n c : Nat) (l : List Nat) (w : World) (h : RB w A n l) (hn : n ≤ 10000000) :
    Calls Tryz.prog 114 #[.slice A n c] w (NewIn w l) := by
  go_enter Tryz.func114, Tryz.ntmps114
  go_wp2_with fail
  refine (bclone _ _ _ l _ h hn).mono ?_
  rintro e w1 ⟨A', c', rfl, hown, hb⟩
  go_wp2
  go_ret
  have hi : InP (fun q => w.heap.size ≤ q ∧ q < w1.heap.size) (w1.alloc (.cells #[.slice A' n c', .bool false] 270)) w1.heap.size ⟨l, false⟩ := ⟨A', n, c', heap_alloc_new _ _, (hown.read).below ((Below.refl _ _).alloc (Nat.le_refl _) _), hown.le, by simp, fun q hq => hown.lt q hq⟩
  exact ⟨w1.heap.size, rfl, hb.size, hi.mono (fun _ _ => trivial), hb.alloc hb.size _, hi⟩
def Took (K : Nat → Prop) (w : World) (g : Nat) (i : InM) (n : Int) (e : Ending) (w' : World) : Prop :=
  ∃ A m c, e = .returned (.slice A m c) ∧ m ≤ c ∧ RB w' A m (i.got n) ∧ InP K w' g (i.rest n) ∧ Only (fun k => k = g) w w'
set_option maxHeartbeats 400000 in
theorem take_any {K : Nat → Prop} (g : Nat) (i : InM) (n : Int) (w : World) (h : InP K w g i) :
    Calls Tryz.prog 180 #[.pointer (some ⟨g, 0, none⟩), .int .i64 n] w (Took K w g i n) := by
  obtain ⟨A, m, c, hg, hr, hc, hb, hq⟩ := h
  have HQ := Lib.hid hq
  clear hq
  have hlt := (Array.getElem?_eq_some_iff.1 hg).1
  have c0 : w.cell? ⟨g, 0, none⟩ = some (.slice A m c) := cell_of_row w g 0 _ _ _ hg
  have c1 : w.cell? ⟨g, 1, none⟩ = some (.bool i.bad) := cell_of_row w g 1 _ _ _ hg
  obtain ⟨l, bad⟩ := i
  simp only at hr hb c1
  have f0 : w.frozen? ⟨g, 0, none⟩ = false := by simp [World.frozen?, hg]
  have f1 : w.frozen? ⟨g, 1, none⟩ = false := by simp [World.frozen?, hg]
  have hml := hr.1
  have hne : ∀ (j : Nat) (x : Int), (#[.slice A m c, .bool bad] : Array Value)[j]? ≠ some (.int .u8 x) := by
    intro j x
    rcases j with _ | _ | j <;> simp
  cases bad
  · by_cases h0 : n < 0
    · have HR := Lib.hid hr
      clear hr
      have e1 : (InM.mk l false).ok n = false := by simp [InM.ok]; omega
      go_enter Tryz.func180, Tryz.ntmps180
      go_wp2
      go_ret
      have hW := blk_set (blk_set hg 0 (.slice none 0 0)) 1 (.bool true)
      refine ⟨none, 0, 0, rfl, Nat.le_refl _, ?_, ⟨none, 0, 0, ?_, ?_, Nat.le_refl _, ?_, fun q hq => by cases hq⟩, ((only_set w g 0 _).setCell (.inl rfl) _)⟩
      · rw [InM.got, e1]; exact RB.nil _ _
      · rw [InM.rest, e1]; exact hW
      · rw [InM.rest, e1]; exact RB.nil _ _
      · rw [InM.rest, e1]; intro _; rfl
    · obtain ⟨k, rfl⟩ := Int.eq_ofNat_of_zero_le (Int.not_lt.1 h0)
      by_cases hk : k ≤ m
      · have e1 : (InM.mk l false).ok k = true := by simp [InM.ok]; omega
        have HR := Lib.hid hr
        have HG := Lib.hid hg
        clear hr hg
        have hrun := slice_l A m c k hk
        go_enter Tryz.func180, Tryz.ntmps180
        go_wp2
        go_ret
        have hW := blk_set HG.out 0 (.slice (cut A c k) (m - k) (c - k))
        have ho := only_set w g 0 (.slice (cut A c k) (m - k) (c - k))
        have hR' := HR.out.store HG.out hne ho
        refine ⟨A, k, c, rfl, by omega, ?_, ⟨cut A c k, m - k, c - k, ?_, ?_, by omega, ?_, fun q hq => HQ.out q (blk_cut hq)⟩, ho⟩
        · rw [InM.got, e1]; exact hR'.take hk
        · rw [InM.rest, e1]; exact hW
        · rw [InM.rest, e1]; exact hR'.drop hk hc
        · rw [InM.rest, e1]; intro hh; cases hh
      · have e1 : (InM.mk l false).ok k = false := by simp [InM.ok]; omega
        have HR := Lib.hid hr
        clear hr
        go_enter Tryz.func180, Tryz.ntmps180
        go_wp2
        go_ret
        have hW := blk_set (blk_set hg 0 (.slice none 0 0)) 1 (.bool true)
        refine ⟨none, 0, 0, rfl, Nat.le_refl _, ?_, ⟨none, 0, 0, ?_, ?_, Nat.le_refl _, ?_, fun q hq => by cases hq⟩, ((only_set w g 0 _).setCell (.inl rfl) _)⟩
        · rw [InM.got, e1]; exact RB.nil _ _
        · rw [InM.rest, e1]; exact hW
        · rw [InM.rest, e1]; exact RB.nil _ _
        · rw [InM.rest, e1]; intro _; rfl
  · obtain rfl : l = [] := hb rfl
    have HR := Lib.hid hr
    clear hr
    have e1 : (InM.mk [] true).ok n = false := by simp [InM.ok]
    go_enter Tryz.func180, Tryz.ntmps180
    go_wp2
    go_ret
    refine ⟨none, 0, 0, rfl, Nat.le_refl _, ?_, ⟨A, m, c, ?_, ?_, hc, ?_, HQ.out⟩, Only.refl _ _⟩
    · rw [InM.got, e1]; exact RB.nil _ _
    · rw [InM.rest, e1]; exact hg
    · rw [InM.rest, e1]; exact HR.out
    · rw [InM.rest, e1]; intro _; rfl
end Go.Proofs.YtlhaempecidohaaGreatDoor
namespace Go.Proofs.YtlhaempecidohaaGreatDoor
open Go.RowKit
/-! ### Two lists alike, place by place -/
def All2 {α β : Type} (R : α → β → Prop) : List α → List β → Prop
  | [], [] => True
  | a :: xs, b :: ys => R a b ∧ All2 R xs ys
  | _, _ => False
section
variable {α β : Type} {R R' : α → β → Prop}
theorem All2.length : ∀ {xs : List α} {ys : List β}, All2 R xs ys → xs.length = ys.length
  | [], [], _ => rfl
  | _ :: xs, _ :: ys, h => by simp only [List.length_cons]; rw [All2.length h.2]
  | [], _ :: _, h => h.elim
  | _ :: _, [], h => h.elim
theorem All2.mono (hR : ∀ a b, R a b → R' a b) : ∀ {xs : List α} {ys : List β}, All2 R xs ys → All2 R' xs ys
  | [], [], _ => trivial
  | _ :: _, _ :: _, h => ⟨hR _ _ h.1, All2.mono hR h.2⟩
  | [], _ :: _, h => h.elim
  | _ :: _, [], h => h.elim
theorem All2.at_ : ∀ {xs : List α} {ys : List β}, All2 R xs ys → ∀ {i : Nat} {b : β}, ys[i]? = some b → ∃ a, xs[i]? = some a ∧ R a b
  | a :: xs, b :: ys, h, 0, _, hb => by cases hb; exact ⟨a, rfl, h.1⟩
  | _ :: xs, _ :: ys, h, i + 1, _, hb => All2.at_ (xs := xs) h.2 (i := i) hb
  | [], [], _, i, _, hb => by simp at hb
  | [], _ :: _, h, _, _, _ => h.elim
  | _ :: _, [], h, _, _, _ => h.elim
theorem All2.left : ∀ {xs : List α} {ys : List β}, All2 R xs ys → ∀ {i : Nat} {a : α}, xs[i]? = some a → ∃ b, ys[i]? = some b ∧ R a b
  | _ :: xs, b :: ys, h, 0, _, ha => by cases ha; exact ⟨b, rfl, h.1⟩
  | _ :: xs, _ :: ys, h, i + 1, _, ha => All2.left (xs := xs) h.2 (i := i) ha
  | [], [], _, i, _, ha => by simp at ha
  | [], _ :: _, h, _, _, _ => h.elim
  | _ :: _, [], h, _, _, _ => h.elim
theorem All2.append : ∀ {xs : List α} {ys : List β} {cs : List α} {ds : List β}, All2 R xs ys → All2 R cs ds → All2 R (xs ++ cs) (ys ++ ds)
  | [], [], _, _, _, h => h
  | _ :: _, _ :: _, _, _, h, h' => ⟨h.1, All2.append h.2 h'⟩
  | [], _ :: _, _, _, h, _ => h.elim
  | _ :: _, [], _, _, h, _ => h.elim
theorem All2.snoc {xs : List α} {ys : List β} {a : α} {b : β} (h : All2 R xs ys) (hab : R a b) : All2 R (xs ++ [a]) (ys ++ [b]) := h.append ⟨hab, trivial⟩
theorem All2.set : ∀ {xs : List α} {ys : List β}, All2 R xs ys → ∀ (i : Nat) {a : α} {b : β}, R a b → All2 R (xs.set i a) (ys.set i b)
  | [], [], _, _, _, _, _ => trivial
  | _ :: _, _ :: _, h, 0, _, _, hab => ⟨hab, h.2⟩
  | _ :: _, _ :: _, h, i + 1, _, _, hab => ⟨h.1, All2.set h.2 i hab⟩
  | [], _ :: _, h, _, _, _, _ => h.elim
  | _ :: _, [], h, _, _, _, _ => h.elim
theorem All2.take : ∀ {xs : List α} {ys : List β}, All2 R xs ys → ∀ k, All2 R (xs.take k) (ys.take k)
  | [], [], _, k => by simp [All2]
  | _ :: _, _ :: _, h, 0 => trivial
  | _ :: _, _ :: _, h, k + 1 => ⟨h.1, All2.take h.2 k⟩
  | [], _ :: _, h, _ => h.elim
  | _ :: _, [], h, _ => h.elim
end
/-! ### Rows of structs -/
theorem flat_len' {vs : List (List Value)} {k : Nat} (h : ∀ v ∈ vs, v.length = k) : vs.flatten.length = vs.length * k := by
  induction vs with
  | nil => simp
  | cons v vs ih => rw [List.flatten_cons, List.length_append, h v (by simp), ih (fun u hu => h u (by simp [hu])), List.length_cons, Nat.add_mul]; omega
theorem flat_get {k : Nat} : ∀ {vs : List (List Value)}, (∀ v ∈ vs, v.length = k) → ∀ {i : Nat} {v : List Value}, vs[i]? = some v → ∀ {j : Nat} {u : Value}, v[j]? = some u → vs.flatten[i * k + j]? = some u
  | v :: vs, h, 0, _, hv, j, u, hu => by
    cases hv
    rw [List.flatten_cons, List.getElem?_append_left (by have := (List.getElem?_eq_some_iff.1 hu).1; omega)]
    simpa using hu
  | w :: vs, h, i + 1, v, hv, j, u, hu => by
    have hw := h w (by simp)
    have e : (i + 1) * k + j = w.length + (i * k + j) := by rw [hw, Nat.add_mul]; omega
    rw [List.flatten_cons, e, List.getElem?_append_right (by omega), Nat.add_sub_cancel_left]
    exact flat_get (vs := vs) (fun x hx => h x (by simp [hx])) hv hu
/-- '.slice A n c' is a row of the call's own, from block 'base' on, of element type T (k cells), and holds vs. -/
structure RowO (w : World) (base : Nat) (T : TypeId) (k : Nat) (A : Option Addr) (n c : Nat) (vs : List (List Value)) : Prop where
  len : vs.length = n
  each : ∀ v ∈ vs, v.length = k
  own : w.ownsRow base T k (.slice A n c) n vs.flatten
/-- '.slice A n _' reads as vs. -/
structure RowR (w : World) (A : Option Addr) (n k : Nat) (vs : List (List Value)) : Prop where
  len : vs.length = n
  each : ∀ v ∈ vs, v.length = k
  cells : 0 < n → ∃ g, A = some ⟨g, 0, none⟩ ∧ ∀ i v, vs[i]? = some v → w.rangeAt g (i * k) v
section
variable {w w' : World} {base n c k : Nat} {T : TypeId} {A : Option Addr} {vs : List (List Value)}
theorem RowO.nil (w : World) (base : Nat) (T : TypeId) (k : Nat) : RowO w base T k none 0 0 [] := ⟨rfl, by simp, World.ownsRow_nil _ _ _ _⟩
theorem RowO.lt (h : RowO w base T k A n c vs) : ∀ g, blk A = some g → base ≤ g ∧ g < w.heap.size := fun g hg => h.own.lt g (by rw [ownBlock_slice]; exact hg)
theorem RowO.only {S : Nat → Prop} (h : RowO w base T k A n c vs) (ho : Only S w w') (hA : ∀ g, blk A = some g → ¬ S g) : RowO w' base T k A n c vs := by
  refine ⟨h.len, h.each, h.own.1, ?_⟩
  rcases h.own.2 with hn | ⟨g, cap, cur, hv, hb, hh, r⟩
  · exact .inl hn
  · refine .inr ⟨g, cap, cur, hv, hb, ?_, r⟩
    refine ho.heap hh (hA g ?_)
    have := congrArg Value.ownBlock hv
    rw [ownBlock_slice] at this
    exact this
theorem RowO.below (h : RowO w base T k A n c vs) (hb : Below w.heap.size w w') : RowO w' base T k A n c vs := h.only (Only.of_below hb (fun _ => False)) (fun _ _ h => h)
theorem RowO.le (h : RowO w base T k A n c vs) : n ≤ c := by
  rcases h.own.2 with ⟨hv, rfl⟩ | ⟨g, cap, cur, hv, _, _, hle, _⟩
  · omega
  · injection hv with _ _ hc; omega
theorem RowO.more (h : RowO w base T k A n c vs) {B : Nat} (hB : ∀ g, blk A = some g → B ≤ g) : RowO w B T k A n c vs := by
  refine ⟨h.len, h.each, h.own.1, ?_⟩
  rcases h.own.2 with hn | ⟨g, cap, cur, hv, hb, r⟩
  · exact .inl hn
  · injection hv with hA _ hc
    subst hA
    subst hc
    exact .inr ⟨g, _, cur, rfl, hB g rfl, r⟩
theorem RowO.form (h : RowO w base T k A n c vs) (hn : 0 < n) : ∃ g, A = some ⟨g, 0, none⟩ := by
  obtain ⟨g, cap, hv, _, _⟩ := h.own.form hn
  injection hv with hA _ _
  exact ⟨g, hA⟩
theorem RowO.read (h : RowO w base T k A n c vs) : RowR w A n k vs := by
  refine ⟨h.len, h.each, fun hn => ?_⟩
  obtain ⟨g, rfl⟩ := h.form hn
  refine ⟨g, rfl, fun i v hv j u hu => ?_⟩
  have hi : i < n := by rw [← h.len]; exact (List.getElem?_eq_some_iff.1 hv).1
  have hj : j < k := by rw [← h.each v (List.mem_of_getElem? hv)]; exact (List.getElem?_eq_some_iff.1 hu).1
  have hm : i * k + k ≤ n * k := by rw [← Nat.succ_mul]; exact Nat.mul_le_mul_right k hi
  rw [h.own.cellAt (i * k + j) (by omega)]
  exact flat_get h.each hv hu
theorem RowR.nil (w : World) (A : Option Addr) (k : Nat) : RowR w A 0 k [] := ⟨rfl, by simp, fun h => absurd h (by omega)⟩
theorem RowR.only {S : Nat → Prop} (h : RowR w A n k vs) (ho : Only S w w') (hA : ∀ g, blk A = some g → ¬ S g) : RowR w' A n k vs := by
  refine ⟨h.len, h.each, fun hn => ?_⟩
  obtain ⟨g, rfl, hc⟩ := h.cells hn
  exact ⟨g, rfl, fun i v hv j u hu => ho.cell (hc i v hv j u hu) (hA g rfl)⟩
theorem RowR.below (h : RowR w A n k vs) (hb : Below w.heap.size w w') : RowR w' A n k vs := by
  refine ⟨h.len, h.each, fun hn => ?_⟩
  obtain ⟨g, rfl, hc⟩ := h.cells hn
  exact ⟨g, rfl, fun i v hv j u hu => cell_later hb (hc i v hv j u hu)⟩
theorem RowR.heap (h : RowR w A n k vs) (e : w'.heap = w.heap) : RowR w' A n k vs := by
  refine ⟨h.len, h.each, fun hn => ?_⟩
  obtain ⟨g, rfl, hc⟩ := h.cells hn
  exact ⟨g, rfl, fun i v hv j u hu => by rw [World.cell?_of_block (w := w) (by rw [e])]; exact hc i v hv j u hu⟩
theorem RowR.take (h : RowR w A n k vs) {m : Nat} (hm : m ≤ n) : RowR w A m k (vs.take m) := by
  refine ⟨by rw [List.length_take, h.len]; omega, fun v hv => h.each v (List.mem_of_mem_take hv), fun h0 => ?_⟩
  obtain ⟨g, e1, e2⟩ := h.cells (by omega)
  refine ⟨g, e1, fun i v hv => e2 i v ?_⟩
  rw [List.getElem?_take] at hv
  split at hv
  · exact hv
  · cases hv
theorem RowR.at_ (h : RowR w A n k vs) {i : Nat} (hi : i < n) : ∃ g v, A = some ⟨g, 0, none⟩ ∧ vs[i]? = some v ∧ v.length = k ∧ w.rangeAt g (i * k) v := by
  obtain ⟨v, hv⟩ : ∃ v, vs[i]? = some v := ⟨_, List.getElem?_eq_getElem (by rw [h.len]; exact hi)⟩
  obtain ⟨g, hA, hc⟩ := h.cells (by omega)
  exact ⟨g, v, hA, hv, h.each v (List.mem_of_getElem? hv), hc i v hv⟩
theorem RowR.lt (h : RowR w A n k vs) (hk : 0 < k) (hn : 0 < n) : ∀ g, blk A = some g → g < w.heap.size := by
  intro g hg
  obtain ⟨g', v, rfl, hv, hl, hc⟩ := h.at_ hn
  simp only [blk, Option.map_some, Option.some.injEq] at hg
  subst hg
  exact World.block_lt_of_cell? _ _ (hc 0 v[0] (List.getElem?_eq_getElem (by omega)))
end
/-- append of one struct -/
theorem wp_append_row {P : Program} {w : World} {ops : Array Oper} {rest : List Oper} {o : Oper} {a : Act} {Q : Exit → Act → World → Prop} (hgd : o.guard = none) (s x : Operand) (S T : TypeId) (k : Nat) (z : Value) (bytes : Nat)
    (hu : P.underlying S = some (.slice T)) (hi : (P.info? T).map (fun i => (i.zero, i.size, i.bytes)) = some (some z, k, bytes)) (hz : z.cells.size = k) (hk : 0 < k) (hby : bytes ≤ 1000)
    (ho : o.op = .call { callee := .builtin .append, args := #[s, x], argTypes := #[S, S] })
    {base : Nat} {A : Option Addr} {n c : Nat} {vs : List (List Value)} {g cx : Nat} {v : List Value} (hs : a.eval s = .slice A n c) (hx : a.eval x = .slice (some ⟨g, 0, none⟩) 1 cx) (hown : RowO w base T k A n c vs)
    (hg : w.rangeAt g 0 v) (hv : v.length = k) (h1 : ∀ u ∈ v, u.oneCell' = true) (hlen : n ≤ 1000000000) (hbase : base ≤ w.heap.size)
    (h : ∀ A' c' w', RowO w' base T k A' (n + 1) c' (vs ++ [v]) → Only (fun b => blk A = some b) w w' → (blk A' = blk A ∨ blk A' = some w.heap.size) → wpList P ops Q rest (a.put o.dst (.slice A' (n + 1) c')) w') :
    wpList P ops Q (o :: rest) a w := by
  refine wpList_plain hgd fun _ hK => ?_
  obtain ⟨i, hi, hz0, hz1, hz2⟩ := info_parts hi
  have hb : (n + 1) * bytes ≤ 140737488355328 := by have : (n + 1) * bytes ≤ 1000000001 * 1000 := Nat.mul_le_mul (by omega) hby; omega
  obtain ⟨v', w', hrun, h2, h3, _, h5⟩ := run_append_own_at (P := P) w base S o.type T i z k bytes hu hi hz0 hz1 hz2 hz hk _ n _ hown.own ⟨g, 0, none⟩ 1 cx v (by rw [hv, Nat.one_mul])
    (fun j u hu => by rw [Addr.add_mid]; exact hg j u hu) h1 (by unfold maxLen; omega) hb hbase
  have hex : ∃ A' c', v' = .slice A' (n + 1) c' := by
    rcases h2.2 with ⟨hv, h0⟩ | ⟨g, cap, cur, hv, _⟩
    · omega
    · exact ⟨_, _, hv⟩
  obtain ⟨A', c', rfl⟩ := hex
  rw [ownBlock_slice, ownBlock_slice] at h5
  rw [ownBlock_slice] at h3
  have hO : Only (fun b => blk A = some b) w w' := Only.of_grown h3 (fun k hk => hk)
  have hR : RowO w' base T k A' (n + 1) c' (vs ++ [v]) := ⟨by rw [List.length_append, hown.len]; rfl, by
    intro u hu
    rcases List.mem_append.1 hu with hu | hu
    · exact hown.each u hu
    · rw [List.mem_singleton.1 hu]; exact hv, by rw [List.flatten_append, List.flatten_cons, List.flatten_nil, List.append_nil]; exact h2⟩
  have hK2 := hK _ _ (h A' c' w' hR hO h5)
  unfold Oper.wp execOp
  simp only [ho, resolve, invoke, builtin, Sem.run_bind, Sem.run_pure, Result.andThen_ok, List.map_toArray, List.map_cons, List.map_nil, hs, hx, hrun]
  exact hK2
/-- the block that the appended struct lies in -/
theorem range_new (w : World) (v : List Value) (T : TypeId) (fr : Nat × Nat := (0, 0)) : (w.alloc (.cells v.toArray T fr)).rangeAt w.heap.size 0 v := fun j u hu => by
  rw [cell_of_row _ _ _ v.toArray T fr (heap_alloc_new w _), Nat.zero_add]
  simpa using hu
/-! ### Blocks that hold no bytes -/
/-- Block b holds no byte. -/
def NoB (w : World) (b : Nat) : Prop := ∀ (a : Addr) (x : Int), a.block = b → w.cell? a ≠ some (.int .u8 x)
theorem NoB.new {w : World} {b : Nat} (h : w.heap.size ≤ b) : NoB w b := fun a x ha e => by
  have := World.block_lt_of_cell? _ _ e
  omega
theorem NoB.cells {w : World} {b : Nat} {cs : Array Value} {t : TypeId} {fr : Nat × Nat} (h : w.heap[b]? = some (.cells cs t fr)) (hc : ∀ (j : Nat) (x : Int), cs[j]? ≠ some (.int .u8 x)) : NoB w b := fun a x ha e => by
  have hs := World.cell?_spot e
  obtain ⟨b', o, sp⟩ := a
  simp only at ha hs
  subst ha hs
  rw [cell_of_row w b' o cs t fr h] at e
  exact hc _ _ e
theorem NoB.map {w : World} {b : Nat} {es : Array MapEntry} {cl : Nat} (h : w.heap[b]? = some (.map es cl)) : NoB w b := fun a x ha e => by
  unfold World.cell? at e
  rw [ha, h] at e
  cases e
theorem RB.keep {S : Nat → Prop} {w w' : World} {A : Option Addr} {n : Nat} {l : List Nat} (h : RB w A n l) (ho : Only S w w') (hs : ∀ b, S b → NoB w b) : RB w' A n l := by
  obtain ⟨h1, h2, h3⟩ := h
  refine ⟨h1, h2, fun hn => ?_⟩
  obtain ⟨ad, rfl, hc⟩ := h3 hn
  exact ⟨ad, rfl, fun j x hj => ho.cell (hc j x hj) (fun e => hs _ e _ _ rfl (hc j x hj))⟩
end Go.Proofs.YtlhaempecidohaaGreatDoor
namespace Go.Proofs.YtlhaempecidohaaGreatDoor
open Go.RowKit
theorem setCells_eq_setRow {w : World} {g : Nat} {T : TypeId} {cur : Array Value} (hg : w.heap[g]? = some (.cells cur T (0, 0))) (o : Nat) (vs : List Value) (hl : o + vs.length ≤ cur.size) (h1 : ∀ v ∈ vs, v.oneCell' = true) :
    w.setCells g o vs = w.setRow g (cur.toList.take o ++ vs ++ cur.toList.drop (o + vs.length)).toArray := by
  have a := run_storeCells_at Tryz.prog g o T vs 0 cur w hg (by omega) h1
  have hc : ∀ j, j < vs.length → (w.cell? ⟨g, o + 0 + j, none⟩).isSome = true := fun j hj => by
    have : o + j < cur.size := by omega
    simp [World.cell?, hg, this]
  have b := run_storeCells_cells (P := Tryz.prog) g o vs 0 w hc (fun j hj => by simp [World.frozen?, hg]) h1
  rw [a] at b
  injection b with _ e
  simp only [Nat.add_zero] at e
  exact e.symm
theorem take_splice {α : Type} (l v : List α) (a m : Nat) (h : a + v.length ≤ m) (hm : m ≤ l.length) : (l.take a ++ v ++ l.drop (a + v.length)).take m = (l.take m).take a ++ v ++ (l.take m).drop (a + v.length) := by
  have hl : (l.take a ++ v).length = a + v.length := by rw [List.length_append, List.length_take]; omega
  rw [List.take_append, List.take_of_length_le (by omega : (l.take a ++ v).length ≤ m), hl, List.take_take, Nat.min_eq_left (by omega), List.drop_take]
theorem flat_set {k : Nat} : ∀ {vs : List (List Value)}, (∀ u ∈ vs, u.length = k) → ∀ {i : Nat} {v : List Value}, v.length = k → i < vs.length →
    (vs.set i v).flatten = vs.flatten.take (i * k) ++ v ++ vs.flatten.drop (i * k + k)
  | u :: vs, h, 0, v, hv, _ => by
    have hu := h u (by simp)
    simp only [List.set_cons_zero, List.flatten_cons, Nat.zero_mul, List.take_zero, List.nil_append, Nat.zero_add]
    rw [← hu, List.drop_left]
  | u :: vs, h, i + 1, v, hv, hi => by
    have hu := h u (by simp)
    have ih := flat_set (vs := vs) (fun x hx => h x (by simp [hx])) (i := i) hv (by simpa using hi)
    simp only [List.set_cons_succ, List.flatten_cons]
    have e1 : (i + 1) * k = u.length + i * k := by rw [hu, Nat.add_mul]; omega
    rw [ih, e1, List.take_append, List.drop_append, List.take_of_length_le (by omega : u.length ≤ u.length + i * k), List.drop_eq_nil_of_le (by omega : u.length ≤ u.length + i * k + k)]
    have e2 : u.length + i * k - u.length = i * k := by omega
    have e3 : u.length + i * k + k - u.length = i * k + k := by omega
    rw [e2, e3]
    simp [List.append_assoc]
theorem flat_take {k : Nat} : ∀ {vs : List (List Value)}, (∀ u ∈ vs, u.length = k) → ∀ {i : Nat}, i ≤ vs.length → (vs.take i).flatten = vs.flatten.take (i * k)
  | _, _, 0, _ => by simp
  | u :: vs, h, i + 1, hi => by
    have hu := h u (by simp)
    have ih := flat_take (vs := vs) (fun x hx => h x (by simp [hx])) (i := i) (by simpa using hi)
    have e1 : (i + 1) * k = u.length + i * k := by rw [hu, Nat.add_mul]; omega
    rw [List.take_succ_cons, List.flatten_cons, List.flatten_cons, ih, e1, List.take_append, List.take_of_length_le (by omega : u.length ≤ u.length + i * k)]
    congr 2
    omega
section
variable {w w' : World} {base n c k g : Nat} {T : TypeId} {A : Option Addr} {vs : List (List Value)}
theorem RowO.block (h : RowO w base T k (some ⟨g, 0, none⟩) n c vs) : ∃ cur, w.heap[g]? = some (.cells cur T (0, 0)) ∧ n ≤ c ∧ cur.size = c * k ∧ cur.toList.take (n * k) = vs.flatten := by
  rcases h.own.2 with ⟨hv, _⟩ | ⟨g', cap, cur, hv, hb, hh, hle, hm, hs, ht⟩
  · cases hv
  · injection hv with hA _ hc
    injection hA with hA
    injection hA with hA
    subst hA hc
    exact ⟨cur, hh, hle, hs, ht⟩
theorem RowO.there (h : RowO w base T k (some ⟨g, 0, none⟩) n c vs) {i m : Nat} (hi : i * k + m ≤ c * k) : w.there g (i * k) m := fun j hj => by
  obtain ⟨cur, hh, -, hs, -⟩ := h.block
  exact ⟨by simp [World.cell?, hh, show i * k + j < cur.size by omega], by simp [World.frozen?, hh]⟩
/-- a struct stored at a place of the row -/
theorem RowO.set (h : RowO w base T k (some ⟨g, 0, none⟩) n c vs) {i : Nat} (hi : i < n) {v : List Value} (hv : v.length = k) (h1 : ∀ u ∈ v, u.oneCell' = true) :
    RowO (w.setCells g (i * k) v) base T k (some ⟨g, 0, none⟩) n c (vs.set i v) ∧ Only (fun b => b = g) w (w.setCells g (i * k) v) := by
  have hown := h.own.2
  obtain ⟨cur, hh, hle, hs, ht⟩ := h.block
  have hm : i * k + k ≤ n * k := by rw [← Nat.succ_mul]; exact Nat.mul_le_mul_right k hi
  have hnc : n * k ≤ c * k := Nat.mul_le_mul_right k hle
  rw [setCells_eq_setRow hh (i * k) v (by omega) h1, hv]
  have hsz : (cur.toList.take (i * k) ++ v ++ cur.toList.drop (i * k + k)).length = c * k := by
    simp only [List.length_append, List.length_take, List.length_drop, Array.length_toList, hv]; omega
  refine ⟨⟨by rw [List.length_set, h.len], ?_, ?_, .inr ?_⟩, ⟨rfl, rfl, rfl, by simp, fun b _ hn => setRow_other w g b _ hn⟩⟩
  · intro u hu
    rcases List.mem_or_eq_of_mem_set hu with hu | hu
    · exact h.each u hu
    · rw [hu]; exact hv
  · rw [flat_len' (k := k) (fun u hu => by
      rcases List.mem_or_eq_of_mem_set hu with hu | hu
      · exact h.each u hu
      · rw [hu]; exact hv), List.length_set, h.len]
  · rcases hown with ⟨hv, _⟩ | ⟨g', cap, cur', hv', hb, hh', hle', hm', hs', ht'⟩
    · cases hv
    · injection hv' with hA _ hc
      injection hA with hA
      injection hA with hA
      subst hA hc
      refine ⟨g, c, _, rfl, hb, setRow_heap w g cur _ T _ hh, hle, hm', by rw [List.size_toArray, hsz], ?_⟩
      show (cur.toList.take (i * k) ++ v ++ cur.toList.drop (i * k + k)).take (n * k) = _
      rw [flat_set h.each hv (by rw [h.len]; exact hi), ← ht]
      have := take_splice cur.toList v (i * k) (n * k) (by omega) (by rw [Array.length_toList]; omega)
      rw [hv] at this
      exact this
/-- the row, cut off -/
theorem RowO.cutTo (h : RowO w base T k (some ⟨g, 0, none⟩) n c vs) {m : Nat} (hm : m ≤ n) : RowO w base T k (some ⟨g, 0, none⟩) m c (vs.take m) := by
  refine ⟨by rw [List.length_take, h.len]; omega, fun v hv => h.each v (List.mem_of_mem_take hv), by rw [flat_len' (k := k) (fun v hv => h.each v (List.mem_of_mem_take hv)), List.length_take, h.len]; congr 1; omega, .inr ?_⟩
  rcases h.own.2 with ⟨hv, _⟩ | ⟨g', cap, cur, hv, hb, hh, hle, hm', hs, ht⟩
  · cases hv
  · injection hv with hA _ hc
    injection hA with hA
    injection hA with hA
    subst hA hc
    refine ⟨g, c, cur, rfl, hb, hh, by omega, hm', hs, ?_⟩
    rw [flat_take h.each (by rw [h.len]; exact hm), ← ht, List.take_take]
    congr 1
    have := Nat.mul_le_mul_right k hm
    omega
/-- cells behind the first m written: the first m stand -/
theorem RowO.behind (h : RowO w base T k (some ⟨g, 0, none⟩) n c vs) {m : Nat} (hm : m ≤ n) {us : List Value} (hu : m * k + us.length ≤ c * k) (h1 : ∀ u ∈ us, u.oneCell' = true) :
    RowO (w.setCells g (m * k) us) base T k (some ⟨g, 0, none⟩) m c (vs.take m) ∧ Only (fun b => b = g) w (w.setCells g (m * k) us) := by
  have h := h.cutTo hm
  have hown := h.own.2
  obtain ⟨cur, hh, hle, hs, ht⟩ := h.block
  rw [setCells_eq_setRow hh (m * k) us (by omega) h1]
  refine ⟨⟨h.len, h.each, h.own.1, .inr ?_⟩, ⟨rfl, rfl, rfl, by simp, fun b _ hn => setRow_other w g b _ hn⟩⟩
  rcases hown with ⟨hv, _⟩ | ⟨g', cap, cur', hv', hb, hh', hle', hm', hs', ht'⟩
  · cases hv
  · injection hv' with hA _ hc
    injection hA with hA
    injection hA with hA
    subst hA hc
    refine ⟨g, c, _, rfl, hb, setRow_heap w g cur _ T _ hh, hle, hm', ?_, ?_⟩
    · simp only [List.size_toArray, List.length_append, List.length_take, List.length_drop, Array.length_toList]; omega
    · show (cur.toList.take (m * k) ++ us ++ cur.toList.drop (m * k + us.length)).take (m * k) = _
      rw [← ht, List.append_assoc, List.take_append, List.take_of_length_le (by rw [List.length_take]; omega)]
      have : m * k - (List.take (m * k) cur.toList).length = 0 := by rw [List.length_take, Array.length_toList]; omega
      rw [this, List.take_zero, List.append_nil]
theorem RowO.range (h : RowO w base T k (some ⟨g, 0, none⟩) n c vs) {i : Nat} {v : List Value} (hv : vs[i]? = some v) : w.rangeAt g (i * k) v := by
  have hi : i < n := by rw [← h.len]; exact (List.getElem?_eq_some_iff.1 hv).1
  obtain ⟨g', hA, hc⟩ := h.read.cells (by omega)
  injection hA with hA
  injection hA with hA
  subst hA
  exact hc i v hv
end
/-! ### Structs that are handed back -/
theorem rowT {P : Program} {T : TypeId} (h : (P.underlying T).map TypeDesc.isRow = some true) : ∃ d, P.underlying T = some d ∧ d.isRow = true := by
  cases e : P.underlying T with
  | none => rw [e] at h; cases h
  | some d =>
    rw [e] at h
    exact ⟨d, rfl, by simpa using h⟩
theorem results_cell_tmp_row {P : Program} {fn : Func} {p u : Tmp} {ty : TypeId} (h : fn.results = #[.cell p ty, .tmp u]) (tmps : Array Value) (w : World) (g : Nat) (t : TypeId) (cs : Array Value) (fr : Nat × Nat)
    (hp : tmps.getD p undef = .pointer (some ⟨g, 0, none⟩)) (hg : w.heap[g]? = some (.cells cs t fr))
    (hr : (P.underlying ty).map TypeDesc.isRow = some true) (hi : (P.info? ty).map (·.size) = some cs.size) :
    (results fn tmps).run P w = .ok (.tuple #[.agg cs, tmps.getD u undef]) w := by
  obtain ⟨d, hu, hd⟩ := rowT hr
  rw [results_cell_tmp h, hp]
  have := run_loadVar_row w g t ty cs fr d hg hu (by cases d <;> simp_all) hi
  simp only [asAddr, Sem.run_pure, Result.andThen_ok, this]
theorem results_cell_row' {P : Program} {fn : Func} {p : Tmp} {ty : TypeId} (h : fn.results = #[.cell p ty]) (tmps : Array Value) (w : World) (g : Nat) (t : TypeId) (cs : Array Value) (fr : Nat × Nat)
    (hp : tmps.getD p undef = .pointer (some ⟨g, 0, none⟩)) (hg : w.heap[g]? = some (.cells cs t fr))
    (hr : (P.underlying ty).map TypeDesc.isRow = some true) (hi : (P.info? ty).map (·.size) = some cs.size) :
    (results fn tmps).run P w = .ok (.agg cs) w := by
  obtain ⟨d, hu, hd⟩ := rowT hr
  exact results_cell_row h tmps w g t cs fr d hp hg hu (by cases d <;> simp_all) hi
theorem row134 : (Tryz.prog.underlying 134).map TypeDesc.isRow = some true := by kernel_rfl
theorem size134 : (Tryz.prog.info? 134).map (·.size) = some 7 := by kernel_rfl
/-- 'clear' of a row's tail -/
theorem run_clear_row {P : Program} (w : World) (t e ty : TypeId) (z : Value) (k : Nat) (ht : P.underlying t = some (.slice e)) (hv : ∀ w, (zeroValue e).run P w = .ok z w) (hz : z.cells.size = k) (h1 : ∀ u ∈ z.cells.toList, u.oneCell' = true) (b o n c : Nat) (hn : 0 < n)
    (hth : w.there b o (n * k)) :
    ∃ us : List Value, us.length = n * k ∧ (∀ u ∈ us, u.oneCell' = true) ∧ (Builtin.clear_ #[t] ty #[.slice (some ⟨b, o, none⟩) n c]).run P w = .ok (.tuple #[]) (w.setCells b o us) := by
  have hlen : (Builtin.zeroCells z.cells n).toList.length = n * k := by rw [Array.length_toList, size_zeroCells, hz]
  have hone : ∀ u ∈ (Builtin.zeroCells z.cells n).toList, u.oneCell' = true := by
    intro u hu
    unfold Builtin.zeroCells at hu
    simp only [Array.toList_map, List.mem_map, Array.mem_toList_iff, Array.mem_range] at hu
    obtain ⟨i, hi, rfl⟩ := hu
    have hk : 0 < z.cells.size := by
      rcases Nat.eq_zero_or_pos z.cells.size with h0 | h0
      · rw [h0, Nat.mul_zero] at hi; omega
      · exact h0
    have hlt : i % z.cells.size < z.cells.size := Nat.mod_lt _ hk
    rw [getElem!_pos z.cells _ hlt]
    exact h1 _ (by simp)
  refine ⟨_, hlen, hone, ?_⟩
  have hst := run_storeCells_cells (P := P) b o (Builtin.zeroCells z.cells n).toList 0 w (fun j hj => by rw [Nat.add_zero]; exact (hth j (by omega)).1) (fun j hj => by rw [Nat.add_zero]; exact (hth j (by omega)).2) hone
  simp only [Nat.add_zero] at hst
  obtain ⟨m, rfl⟩ : ∃ m, n = m + 1 := ⟨n - 1, by omega⟩
  simp [Builtin.clear_, run_underlying ht, hv, hst]
theorem wp_clear_row {P : Program} {w : World} {ops : Array Oper} {rest : List Oper} {o : Oper} {a : Act} {Q : Exit → Act → World → Prop} (hgd : o.guard = none) (s : Operand) (S T : TypeId) (k : Nat) (z : Value)
    (ho : o.op = .call { callee := .builtin .clear, args := #[s], argTypes := #[S] }) (ht : P.underlying S = some (.slice T)) (hv : ∀ w, (zeroValue T).run P w = .ok z w) (hz : z.cells.size = k) (h1 : ∀ u ∈ z.cells.toList, u.oneCell' = true)
    {b off n c : Nat} (hs : a.eval s = .slice (some ⟨b, off, none⟩) n c) (hn : 0 < n) (hth : w.there b off (n * k))
    (h : ∀ us : List Value, us.length = n * k → (∀ u ∈ us, u.oneCell' = true) → wpList P ops Q rest (a.put o.dst (.tuple #[])) (w.setCells b off us)) :
    wpList P ops Q (o :: rest) a w := by
  refine wpList_plain hgd fun _ hK => ?_
  obtain ⟨us, hu1, hu2, hrun⟩ := run_clear_row (P := P) w S T o.type z k ht hv hz h1 b off n c hn hth
  have hK2 := hK _ _ (h us hu1 hu2)
  unfold Oper.wp execOp
  simp only [ho, resolve, invoke, builtin, Sem.run_bind, Sem.run_pure, Result.andThen_ok, List.map_toArray, List.map_cons, List.map_nil, hs, hrun]
  exact hK2
theorem slice_row_l {S T : TypeId} {k bytes : Nat} {z : Value} (hu : Tryz.prog.underlying S = some (.slice T)) (hi : (Tryz.prog.info? T).map (fun i => (i.zero, i.size, i.bytes)) = some (some z, k, bytes)) (g n c i : Nat) (h : i < n) (hn : n ≤ c) (w : World) :
    (Instr.slice S (.slice (some ⟨g, 0, none⟩) n c) (some (.int .i64 (i : Int))) none none).run Tryz.prog w = .ok (.slice (some ⟨g, i * k, none⟩) (n - i) (c - i)) w := by
  obtain ⟨i', hi', -, hz1, -⟩ := info_parts hi
  have he : Tryz.prog.elem S = T := by unfold Program.elem; rw [hu]
  have := run_slice_l (P := Tryz.prog) (w := w) S (some ⟨g, 0, none⟩) n c (by rw [he]; exact hu) .i64 i (by omega) (by omega)
  rw [this, he]
  have hci : ¬ c = i := by omega
  simp [sizeOf, typeInfo, hi', hz1, sliced, hci, Addr.add_mid]
theorem slice_row_h {S T : TypeId} {k bytes : Nat} {z : Value} (hu : Tryz.prog.underlying S = some (.slice T)) (hi : (Tryz.prog.info? T).map (fun i => (i.zero, i.size, i.bytes)) = some (some z, k, bytes)) (A : Option Addr) (n c i : Nat) (h : i ≤ c) (w : World) :
    (Instr.slice S (.slice A n c) none (some (.int .i64 (i : Int))) none).run Tryz.prog w = .ok (.slice A i c) w := by
  obtain ⟨i', hi', -, hz1, -⟩ := info_parts hi
  have he : Tryz.prog.elem S = T := by unfold Program.elem; rw [hu]
  have := run_slice_h (P := Tryz.prog) (w := w) S A n c (by rw [he]; exact hu) .i64 i (by omega) (by omega)
  rw [this, he]
  simp [sizeOf, typeInfo, hi', hz1, sliced]
  intro _
  cases A with
  | none => rfl
  | some a => simp [Addr.add]
/-- a struct stored at place i of a row -/
theorem wp_store_row {P : Program} {w : World} {ops : Array Oper} {rest : List Oper} {o : Oper} {a : Act} {Q : Exit → Act → World → Prop} (hgd : o.guard = none) (T : TypeId) (x y : Operand) (ho : o.op = .store T x y)
    {base T' k n c : Nat} {vs : List (List Value)} (g i : Nat) (cells : Array Value) (hx : a.eval x = .pointer (some ⟨g, i * k, none⟩)) (hy : a.eval y = .agg cells) (hr : RowO w base T' k (some ⟨g, 0, none⟩) n c vs) (hi : i < n)
    (hk : cells.size = k) (hsz : (P.info? T).map (·.size) = some k) (h1 : cells.all (·.oneCell') = true)
    (h : ∀ w', RowO w' base T' k (some ⟨g, 0, none⟩) n c (vs.set i cells.toList) → Only (fun b => b = g) w w' → wpList P ops Q rest (a.put o.dst undef) w') : wpList P ops Q (o :: rest) a w := by
  have hone : ∀ u ∈ cells.toList, u.oneCell' = true := fun u hu => (Array.all_eq_true_iff_forall_mem.1 h1) u (by simpa using hu)
  obtain ⟨h2, h3⟩ := hr.set hi (v := cells.toList) (by rw [Array.length_toList]; exact hk) hone
  have hle := hr.le
  have hm : i * k + k ≤ c * k := by rw [← Nat.succ_mul]; exact Nat.mul_le_mul_right k (by omega)
  exact wpList_store_mid hgd T x y ho g (i * k) cells hx hy (hr.there (by omega)) (by rw [hk]; exact hsz) h1 (h _ h2 h3)
/-- 'clear' of a row's tail, from place m on -/
theorem wp_clear_tail {P : Program} {w : World} {ops : Array Oper} {rest : List Oper} {o : Oper} {a : Act} {Q : Exit → Act → World → Prop} (hgd : o.guard = none) (s : Operand) (S T : TypeId) (k : Nat) (z : Value)
    (ho : o.op = .call { callee := .builtin .clear, args := #[s], argTypes := #[S] }) (ht : P.underlying S = some (.slice T)) (hv : ∀ w, (zeroValue T).run P w = .ok z w) (hz : z.cells.size = k) (h1 : ∀ u ∈ z.cells.toList, u.oneCell' = true)
    {base T' n c cc : Nat} {vs : List (List Value)} (g m : Nat) (hs : a.eval s = .slice (some ⟨g, m * k, none⟩) (n - m) cc) (hr : RowO w base T' k (some ⟨g, 0, none⟩) n c vs) (hm : m < n)
    (h : ∀ w', RowO w' base T' k (some ⟨g, 0, none⟩) m c (vs.take m) → Only (fun b => b = g) w w' → wpList P ops Q rest (a.put o.dst (.tuple #[])) w') :
    wpList P ops Q (o :: rest) a w := by
  have hle := hr.le
  have e1 : m * k + (n - m) * k = n * k := by rw [← Nat.add_mul]; congr 1; omega
  have e2 : n * k ≤ c * k := Nat.mul_le_mul_right k hle
  refine wp_clear_row hgd s S T k z ho ht hv hz h1 hs (by omega) (hr.there (by omega)) (fun us hu1 hu2 => ?_)
  obtain ⟨h2, h3⟩ := hr.behind (m := m) (by omega) (us := us) (by omega) hu2
  exact h _ h2 h3
/-- append of one struct, in a region that draws its order -/
theorem step_append_row {P : Program} {w : World} {ops : Array Oper} {o : Oper} {a : Act} {K : Act → World → Prop} {Q : Exit → Act → World → Prop} {E : Prop} (hgd : o.guard = none) (s x : Operand) (S T : TypeId) (k : Nat) (z : Value) (bytes : Nat)
    (hu : P.underlying S = some (.slice T)) (hi : (P.info? T).map (fun i => (i.zero, i.size, i.bytes)) = some (some z, k, bytes)) (hz : z.cells.size = k) (hk : 0 < k) (hby : bytes ≤ 1000)
    (ho : o.op = .call { callee := .builtin .append, args := #[s, x], argTypes := #[S, S] })
    {base : Nat} {A : Option Addr} {n c : Nat} {vs : List (List Value)} {g cx : Nat} {v : List Value} (hs : a.eval s = .slice A n c) (hx : a.eval x = .slice (some ⟨g, 0, none⟩) 1 cx) (hown : RowO w base T k A n c vs)
    (hg : w.rangeAt g 0 v) (hv : v.length = k) (h1 : ∀ u ∈ v, u.oneCell' = true) (hlen : n ≤ 1000000000) (hbase : base ≤ w.heap.size)
    (h : ∀ A' c' w', RowO w' base T k A' (n + 1) c' (vs ++ [v]) → Only (fun b => blk A = some b) w w' → (blk A' = blk A ∨ blk A' = some w.heap.size) → K (a.put o.dst (.slice A' (n + 1) c')) w') :
    if Region.wanted o (yielded ops a.tmps) = true then Oper.wp P o a w K Q else E := by
  have hw : Region.wanted o (yielded ops a.tmps) = true := by simp [Region.wanted, hgd]
  rw [if_pos hw]
  obtain ⟨i, hi, hz0, hz1, hz2⟩ := info_parts hi
  have hb : (n + 1) * bytes ≤ 140737488355328 := by have : (n + 1) * bytes ≤ 1000000001 * 1000 := Nat.mul_le_mul (by omega) hby; omega
  obtain ⟨v', w', hrun, h2, h3, _, h5⟩ := run_append_own_at (P := P) w base S o.type T i z k bytes hu hi hz0 hz1 hz2 hz hk _ n _ hown.own ⟨g, 0, none⟩ 1 cx v (by rw [hv, Nat.one_mul])
    (fun j u hu => by rw [Addr.add_mid]; exact hg j u hu) h1 (by unfold maxLen; omega) hb hbase
  have hex : ∃ A' c', v' = .slice A' (n + 1) c' := by
    rcases h2.2 with ⟨hv, h0⟩ | ⟨g, cap, cur, hv, _⟩
    · omega
    · exact ⟨_, _, hv⟩
  obtain ⟨A', c', rfl⟩ := hex
  rw [ownBlock_slice, ownBlock_slice] at h5
  rw [ownBlock_slice] at h3
  have hO : Only (fun b => blk A = some b) w w' := Only.of_grown h3 (fun k hk => hk)
  have hR : RowO w' base T k A' (n + 1) c' (vs ++ [v]) := ⟨by rw [List.length_append, hown.len]; rfl, by
    intro u hu
    rcases List.mem_append.1 hu with hu | hu
    · exact hown.each u hu
    · rw [List.mem_singleton.1 hu]; exact hv, by rw [List.flatten_append, List.flatten_cons, List.flatten_nil, List.append_nil]; exact h2⟩
  have hK2 := h A' c' w' hR hO h5
  unfold Oper.wp execOp
  simp only [ho, resolve, invoke, builtin, Sem.run_bind, Sem.run_pure, Result.andThen_ok, List.map_toArray, List.map_cons, List.map_nil, hs, hx, hrun]
  exact hK2
end Go.Proofs.YtlhaempecidohaaGreatDoor
