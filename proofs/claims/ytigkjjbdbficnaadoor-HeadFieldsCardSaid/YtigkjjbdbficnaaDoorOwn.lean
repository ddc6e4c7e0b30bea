/-
  Words for memory, more: a slice of bytes of the call's own, and an append onto it; a world of which only some blocks have turned.
-/
import Derived.Test.YtigkjjbdbficnaaDoorRows
import Derived.Test.YtigkjjbdbficnaaDoorMem
import Derived.Maps.AppendAt
import Derived.Deep.Draws
import Derived.Deep.AppendLies
import Derived.RegionTactic
namespace Go.Proofs.YtigkjjbdbficnaaDoor
open Go.RowKit

/-! ### Only the blocks of S, and new ones, have turned -/
structure Only (S : Nat → Prop) (w w' : World) : Prop where
  os : w'.os = w.os
  tape : w'.tape = w.tape
  output : w'.output = w.output
  size : w.heap.size ≤ w'.heap.size
  block : ∀ k, k < w.heap.size → ¬ S k → w'.heap[k]? = w.heap[k]?

section
variable {S S' : Nat → Prop} {a b c w w' : World}
theorem Only.refl (S : Nat → Prop) (w : World) : Only S w w := ⟨rfl, rfl, rfl, Nat.le_refl _, fun _ _ _ => rfl⟩
theorem Only.trans (h : Only S a b) (k : Only S' b c) (hs : ∀ i, i < a.heap.size → S' i → S i) : Only S a c :=
  ⟨k.os.trans h.os, k.tape.trans h.tape, k.output.trans h.output, Nat.le_trans h.size k.size,
    fun i hi hn => (k.block i (Nat.lt_of_lt_of_le hi h.size) (fun x => hn (hs i hi x))).trans (h.block i hi hn)⟩
theorem Only.mono (h : Only S a b) (hs : ∀ i, S i → S' i) : Only S' a b := ⟨h.os, h.tape, h.output, h.size, fun i hi hn => h.block i hi (fun x => hn (hs i x))⟩
theorem Only.drew (h : Only S a b) : Only S a b.drew := ⟨h.os, h.tape, h.output, h.size, h.block⟩
theorem Only.drewN (h : Only S a b) (n : Nat) : Only S a (b.drewN n) := ⟨h.os, h.tape, h.output, h.size, h.block⟩
theorem Only.alloc (h : Only S a b) (o : Obj) : Only S a (b.alloc o) :=
  ⟨h.os, h.tape, h.output, Nat.le_trans h.size (by simp), fun i hi hn => (Below.heap_alloc b o i (Nat.lt_of_lt_of_le hi h.size)).trans (h.block i hi hn)⟩
theorem Only.setCell (h : Only S a b) {p : Addr} (hp : S p.block ∨ a.heap.size ≤ p.block) (u : Value) : Only S a (b.setCell p u) :=
  ⟨h.os, h.tape, h.output, by simpa [World.setCell] using h.size, fun i hi hn => (Below.heap_setCell b p u i (by
    rintro rfl
    rcases hp with hp | hp
    · exact hn hp
    · omega)).trans (h.block i hi hn)⟩
theorem Only.of_below (h : Below a.heap.size a b) (S : Nat → Prop) : Only S a b := ⟨h.os, h.tape, h.output, h.size, fun i hi _ => h.block i hi⟩
theorem Only.of_grown {row : Option Nat} (h : a.grownBy b row) (hs : ∀ k, row = some k → S k) : Only S a b :=
  ⟨h.os, h.tape, h.output, h.size, fun i hi hn => h.block i hi (fun e => hn (hs i e.symm))⟩
theorem Only.below (h : Only S a b) {B : Nat} (hB : B ≤ a.heap.size) (hs : ∀ i, i < B → ¬ S i) : Below B a b :=
  ⟨h.os, h.tape, h.output, h.size, fun i hi => h.block i (Nat.lt_of_lt_of_le hi hB) (hs i hi)⟩
theorem Only.none_ (h : Only S a b) (hs : ∀ i, i < a.heap.size → ¬ S i) : Below a.heap.size a b := h.below (Nat.le_refl _) hs
theorem Only.cell (h : Only S a b) {p : Addr} {u : Value} (hc : a.cell? p = some u) (hp : ¬ S p.block) : b.cell? p = some u :=
  (World.cell?_of_block (h.block p.block (World.block_lt_of_cell? _ _ hc) hp)).trans hc
theorem Only.heap (h : Only S a b) {k : Nat} {o : Obj} (hk : a.heap[k]? = some o) (hp : ¬ S k) : b.heap[k]? = some o :=
  (h.block k (Array.getElem?_eq_some_iff.1 hk).1 hp).trans hk
end

/-! ### A slice of bytes, read: more -/
theorem Tryd.info5 : (Tryd.prog.info? 5).map (fun i => (i.zero, i.size, i.bytes)) = some (some (.int .u8 0), 1, 1) := by kernel_rfl
def blk (A : Option Addr) : Option Nat := A.map (·.block)

theorem RB.nil (w : World) (A : Option Addr) : RB w A 0 [] := ⟨rfl, by simp, fun h => absurd h (by omega)⟩
theorem RB.only {S : Nat → Prop} {w w' : World} {A : Option Addr} {n : Nat} {l : List Nat} (h : RB w A n l) (ho : Only S w w') (hs : ∀ k, blk A = some k → ¬ S k) : RB w' A n l := by
  obtain ⟨h1, h2, h3⟩ := h
  refine ⟨h1, h2, fun hn => ?_⟩
  obtain ⟨ad, rfl, hc⟩ := h3 hn
  refine ⟨ad, rfl, fun j x hj => ho.cell (hc j x hj) ?_⟩
  have : (ad.add j).block = ad.block := by unfold Addr.add; split <;> rfl
  rw [this]
  exact hs _ rfl
theorem add_add (a : Addr) (i j : Nat) : (a.add i).add j = a.add (i + j) := by
  unfold Addr.add
  by_cases hi : i = 0 <;> by_cases hj : j = 0 <;> simp [hi, hj, Nat.add_assoc]
theorem RB.take {w : World} {A : Option Addr} {n : Nat} {l : List Nat} (h : RB w A n l) {k : Nat} (hk : k ≤ n) : RB w A k (l.take k) := by
  obtain ⟨h1, h2, h3⟩ := h
  refine ⟨by rw [List.length_take]; omega, fun x hx => h2 x (List.mem_of_mem_take hx), fun hn => ?_⟩
  obtain ⟨ad, e, hc⟩ := h3 (by omega)
  refine ⟨ad, e, fun j x hj => hc j x ?_⟩
  have hjl : j < (l.take k).length := (List.getElem?_eq_some_iff.1 hj).1
  rw [List.length_take] at hjl
  rwa [List.getElem?_take_of_lt (by omega)] at hj
/-- Where a slice begins that is cut k elements on. -/
def cut (A : Option Addr) (c k : Nat) : Option Addr := if c = k then A else A.map (·.add k)
theorem RB.drop {w : World} {A : Option Addr} {n : Nat} {l : List Nat} (h : RB w A n l) {k cap : Nat} (hk : k ≤ n) (hc : n ≤ cap) : RB w (cut A cap k) (n - k) (l.drop k) := by
  obtain ⟨h1, h2, h3⟩ := h
  refine ⟨by rw [List.length_drop]; omega, fun x hx => h2 x (List.mem_of_mem_drop hx), fun hn => ?_⟩
  obtain ⟨ad, rfl, hcell⟩ := h3 (by omega)
  unfold cut
  rw [if_neg (by omega)]
  refine ⟨ad.add k, rfl, fun j x hj => ?_⟩
  rw [add_add]
  exact hcell _ x (by rw [← hj, List.getElem?_drop])
theorem Tryd.cellsOf5 : Tryd.prog.cellsOf 5 = 1 := by kernel_rfl
theorem slice_l (A : Option Addr) (n c k : Nat) (hk : k ≤ n) (w : World) :
    (Instr.slice 22 (.slice A n c) (some (.int .i64 (k : Int))) none none).run Tryd.prog w = .ok (.slice (cut A c k) (n - k) (c - k)) w := by
  obtain ⟨i, hi, -, hz1, -⟩ := info_parts Tryd.info5
  have := run_slice_l (P := Tryd.prog) (w := w) 22 A n c (by kernel_rfl) .i64 k (by omega) (by omega)
  rw [this]
  simp [sizeOf, typeInfo, hi, hz1, sliced, cut, Program.elem]
theorem slice_lh (A : Option Addr) (n c lo hi : Nat) (h1 : lo ≤ hi) (h2 : hi ≤ c) (w : World) :
    (Instr.slice 22 (.slice A n c) (some (.int .i64 (lo : Int))) (some (.int .i64 (hi : Int))) none).run Tryd.prog w = .ok (.slice (cut A c lo) (hi - lo) (c - lo)) w := by
  obtain ⟨i, hi', -, hz1, -⟩ := info_parts Tryd.info5
  have := run_slice_lh (P := Tryd.prog) (w := w) 22 A n c (by kernel_rfl) .i64 .i64 lo hi (by omega) (by omega) (by omega)
  rw [this]
  simp [sizeOf, typeInfo, hi', hz1, sliced, cut, Program.elem]
theorem RB.mid {w : World} {A : Option Addr} {n : Nat} {l : List Nat} (h : RB w A n l) {lo hi cap : Nat} (h1 : lo ≤ hi) (h2 : hi ≤ n) (hc : n ≤ cap) :
    RB w (cut A cap lo) (hi - lo) ((l.drop lo).take (hi - lo)) := (h.drop (k := lo) (by omega) hc).take (by omega)
theorem blk_set {w : World} {g : Nat} {t : TypeId} {cs : Array Value} (h : w.heap[g]? = some (.cells cs t (0, 0))) (i : Nat) (u : Value) :
    (w.setCell ⟨g, i, none⟩ u).heap[g]? = some (.cells (cs.setIfInBounds i u) t (0, 0)) := by
  simp [World.setCell, Array.getElem?_modify, h]
theorem only_set (w : World) (g i : Nat) (u : Value) : Only (fun k => k = g) w (w.setCell ⟨g, i, none⟩ u) := (Only.refl (fun k => k = g) w).setCell (p := ⟨g, i, none⟩) (.inl rfl) u
theorem Only.row {S : Nat → Prop} {w w' : World} {g : Nat} {t : TypeId} {cs : Array Value} (ho : Only S w w') (hg : w.heap[g]? = some (.cells cs t (0, 0))) (hs : ¬ S g) :
    (∀ i, w'.cell? ⟨g, i, none⟩ = cs[i]?) ∧ (∀ i, w'.frozen? ⟨g, i, none⟩ = false) ∧ w'.heap[g]? = some (.cells cs t (0, 0)) := by
  have h := ho.heap hg hs
  exact ⟨fun i => cell_of_row w' g i _ _ _ h, fun i => by simp [World.frozen?, h], h⟩
/-- A block that holds no bytes is none of a slice of bytes. -/
theorem RB.store {w w' : World} {A : Option Addr} {n g : Nat} {l : List Nat} {t : TypeId} {cs : Array Value} (h : RB w A n l) (hg : w.heap[g]? = some (.cells cs t (0, 0)))
    (hne : ∀ (j : Nat) (x : Int), cs[j]? ≠ some (.int .u8 x)) (ho : Only (fun k => k = g) w w') : RB w' A n l := by
  obtain ⟨h1, h2, h3⟩ := h
  refine ⟨h1, h2, fun hn => ?_⟩
  obtain ⟨ad, rfl, hc⟩ := h3 hn
  refine ⟨ad, rfl, fun j x hj => ho.cell (hc j x hj) ?_⟩
  intro e
  have hcell := hc j x hj
  have : (ad.add j).block = g := e
  have hh : w.heap[(ad.add j).block]? = some (.cells cs t (0, 0)) := by rw [this]; exact hg
  have hs := World.cell?_spot hcell
  generalize ad.add j = p at hcell hh hs
  obtain ⟨b, o, sp⟩ := p
  simp only at hs
  subst hs
  rw [cell_of_row w b o cs t (0, 0) hh] at hcell
  exact hne _ _ hcell

/-! ### A slice of bytes of the call's own -/
def bv (l : List Nat) : List Value := l.map fun (x : Nat) => Value.int .u8 (x : Int)
theorem bv_append (a b : List Nat) : bv (a ++ b) = bv a ++ bv b := by simp [bv]
theorem bv_length (l : List Nat) : (bv l).length = l.length := by simp [bv]

/-- '.slice A n c' is a row of the call's own, from block 'base' on, of element type 5 (bytes), and holds l. -/
def Own (w : World) (base : Nat) (A : Option Addr) (n c : Nat) (l : List Nat) : Prop :=
  l.length = n ∧ (∀ x ∈ l, x < 256) ∧ w.ownsRow base 5 1 (.slice A n c) n (bv l)

theorem ownBlock_slice (A : Option Addr) (n c : Nat) : (Value.slice A n c).ownBlock = blk A := by cases A <;> rfl

section
variable {w w' : World} {base n c : Nat} {A : Option Addr} {l : List Nat}
theorem Own.nil (w : World) (base : Nat) : Own w base none 0 0 [] := ⟨rfl, by simp, World.ownsRow_nil _ _ _ _⟩
theorem Own.read (h : Own w base A n c l) : RB w A n l := by
  obtain ⟨h1, h2, h3⟩ := h
  refine ⟨h1, h2, fun hn => ?_⟩
  obtain ⟨g, cap, hv, _, _⟩ := h3.form hn
  injection hv with hA _ _
  refine ⟨_, hA, fun j x hj => h3.cells (g := g) (by rw [hA]; rfl) j _ ?_⟩
  rw [bv, List.getElem?_map, hj]
  rfl
theorem Own.le (h : Own w base A n c l) : n ≤ c := by
  rcases h.2.2.2 with ⟨hv, rfl⟩ | ⟨g, cap, cur, hv, _, _, hle, _⟩
  · omega
  · injection hv with _ _ hc; omega
theorem Own.lt (h : Own w base A n c l) : ∀ k, blk A = some k → base ≤ k ∧ k < w.heap.size := fun k hk => h.2.2.lt k (by rw [ownBlock_slice]; exact hk)
theorem Own.type (h : Own w base A n c l) : ∀ k, blk A = some k → ∃ cs, w.heap[k]? = some (.cells cs 5 (0, 0)) := by
  intro k hk
  rcases h.2.2.2 with ⟨hv, rfl⟩ | ⟨g, cap, cur, hv, _, hh, _⟩
  · injection hv with hA _ _; subst hA; simp [blk] at hk
  · injection hv with hA _ _; subst hA
    simp [blk] at hk
    subst hk
    exact ⟨_, hh⟩
theorem Own.only {S : Nat → Prop} (h : Own w base A n c l) (ho : Only S w w') (hs : ∀ k, blk A = some k → ¬ S k) : Own w' base A n c l := by
  refine ⟨h.1, h.2.1, h.2.2.1, ?_⟩
  rcases h.2.2.2 with hn | ⟨g, cap, cur, hv, hb, hh, r⟩
  · exact .inl hn
  · refine .inr ⟨g, cap, cur, hv, hb, ?_, r⟩
    refine ho.heap hh (hs g ?_)
    injection hv with hA _ _
    subst hA
    rfl
theorem Own.more (h : Own w base A n c l) {B : Nat} (hB : ∀ k, blk A = some k → B ≤ k) : Own w B A n c l := by
  refine ⟨h.1, h.2.1, h.2.2.1, ?_⟩
  rcases h.2.2.2 with hn | ⟨g, cap, cur, hv, hb, r⟩
  · exact .inl hn
  · injection hv with hA _ hc
    subst hA
    subst hc
    exact .inr ⟨g, _, cur, rfl, hB g rfl, r⟩
theorem Own.alloc (h : Own w base A n c l) (o : Obj) : Own (w.alloc o) base A n c l := h.only ((Only.refl (fun _ => False) w).alloc o) (fun _ _ h => h)
theorem Own.drew (h : Own w base A n c l) : Own w.drew base A n c l := h
theorem Own.drewN (h : Own w base A n c l) (k : Nat) : Own (w.drewN k) base A n c l := h
/-- A new row of bytes that was laid just now, not full. -/
theorem Own.made (w : World) (cs : Array Value) (cap : Nat) (hb : base ≤ w.heap.size) (hm : cap ≤ maxLen) (hs : cs.size = cap) :
    Own (w.alloc (.cells cs 5)) base (some ⟨w.heap.size, 0, none⟩) 0 cap [] :=
  ⟨rfl, by simp, World.ownsRow_made w cs cap hb hm (by rw [hs, Nat.mul_one])⟩
end

section
variable {w : World} {base n c g : Nat} {l : List Nat}
theorem Own.cellAt (h : Own w base (some ⟨g, 0, none⟩) n c l) {j x : Nat} (hj : l[j]? = some x) : w.cell? ⟨g, j, none⟩ = some (.int .u8 (x : Int)) := by
  have hjl : j < l.length := (List.getElem?_eq_some_iff.1 hj).1
  rw [h.2.2.cellAt j (by rw [h.1] at hjl; omega), bv, List.getElem?_map, hj]
  rfl
theorem Own.frozenAt (h : Own w base (some ⟨g, 0, none⟩) n c l) (j : Nat) : w.frozen? ⟨g, j, none⟩ = false := h.2.2.frozenAt j
theorem Own.set_ (h : Own w base (some ⟨g, 0, none⟩) n c l) (j y : Nat) (hy : y < 256) : Own (w.setCell ⟨g, j, none⟩ (.int .u8 (y : Int))) base (some ⟨g, 0, none⟩) n c (l.set j y) := by
  refine ⟨by rw [List.length_set]; exact h.1, ?_, ?_⟩
  · intro x hx
    rcases List.mem_or_eq_of_mem_set hx with h1 | h1
    · exact h.2.1 x h1
    · rw [h1]; exact hy
  · have := h.2.2.stored j (.int .u8 (y : Int))
    rw [show (bv l).set j (.int .u8 (y : Int)) = bv (l.set j y) from by simp [bv, List.map_set]] at this
    exact this.1
/-- make([]byte, n) -/
theorem Own.of_made {w' : World} (h : w'.ownsRow base 5 1 (.slice (some ⟨g, 0, none⟩) n n) n (madeCells (Value.int .u8 0).cells (n * 1)).toList) : Own w' base (some ⟨g, 0, none⟩) n n (List.replicate n 0) := by
  refine ⟨by simp, by simp, ?_⟩
  have e : (madeCells (Value.int .u8 0).cells (n * 1)).toList = bv (List.replicate n 0) := by
    simp [madeCells, bv, Value.cells, Nat.mod_one]
    apply List.eq_replicate_iff.2
    simp
  rw [e] at h
  exact h
end

/-- A row of bytes that was laid just now, full. -/
theorem Own.lit (w : World) (base : Nat) (cs : Array Value) (m : Nat) (l : List Nat) (h : cs.toList = bv l) (hl : l.length = m) (hx : ∀ x ∈ l, x < 256) (hb : base ≤ w.heap.size) (hm : m ≤ maxLen) :
    Own (w.alloc (.cells cs 5)) base (some ⟨w.heap.size, 0, none⟩) m m l := by
  have hs : cs.size = m := by rw [← Array.length_toList, h, bv_length, hl]
  refine ⟨hl, hx, by rw [bv_length, hl, Nat.mul_one], .inr ⟨w.heap.size, m, cs, rfl, hb, heap_alloc_new w _, Nat.le_refl _, hm, by rw [hs, Nat.mul_one], ?_⟩⟩
  rw [← h, List.take_of_length_le (by rw [Array.length_toList, hs, Nat.mul_one]; exact Nat.le_refl _)]

/-! ### append -/

theorem bv_one (l : List Nat) : ∀ u ∈ bv l, u.oneCell' = true := by
  intro u hu
  simp only [bv, List.mem_map] at hu
  obtain ⟨x, _, rfl⟩ := hu
  rfl

theorem run_append_nil (w : World) (base : Nat) (ty : TypeId) (v : Value) (n : Nat) (xs : List Value) (hown : w.ownsRow base 5 1 v n xs) (c : Nat) :
    (Builtin.append_ #[22, 22] ty #[v, .slice none 0 c]).run Tryd.prog w = .ok v w := by
  obtain ⟨i, hi, -, hz1, -⟩ := info_parts Tryd.info5
  rcases hown.2 with ⟨rfl, rfl⟩ | ⟨g, cap, cur, rfl, _, _, hnc, _⟩
  · simp [Builtin.append_, run_underlying Tryd.underlying22, sizeOf, typeInfo, hi, Builtin.lenOf, Builtin.firstCells]
  · simp [Builtin.append_, run_underlying Tryd.underlying22, sizeOf, typeInfo, hi, Builtin.lenOf, Builtin.firstCells, hnc, storeCells]

theorem run_append_rb (w : World) (ty : TypeId) {base : Nat} {A : Option Addr} {n c : Nat} {l : List Nat} (hown : Own w base A n c l)
    {X : Option Addr} {m cx : Nat} {news : List Nat} (hr : RB w X m news) (hlen : n + m ≤ 1000000) (hbase : base ≤ w.heap.size) :
    ∃ A' c' w', (Builtin.append_ #[22, 22] ty #[.slice A n c, .slice X m cx]).run Tryd.prog w = .ok (.slice A' (n + m) c') w' ∧ Own w' base A' (n + m) c' (l ++ news) ∧
      Only (fun k => blk A = some k) w w' ∧ (blk A' = blk A ∨ blk A' = some w.heap.size) := by
  obtain ⟨i, hi, hz0, hz1, hz2⟩ := info_parts Tryd.info5
  have hb : ∀ x ∈ l ++ news, x < 256 := by
    intro x hx
    rcases List.mem_append.1 hx with h | h
    · exact hown.2.1 x h
    · exact hr.2.1 x h
  have hll : (l ++ news).length = n + m := by rw [List.length_append, hown.1, hr.1]
  rcases X with _ | ad
  · have hm : m = 0 := by
      rcases Nat.eq_zero_or_pos m with h0 | h0
      · exact h0
      · obtain ⟨ad, h, _⟩ := hr.2.2 h0
        cases h
    subst hm
    have hn : news = [] := List.eq_nil_of_length_eq_zero hr.1
    subst hn
    exact ⟨A, c, w, run_append_nil w base ty _ n _ hown.2.2 cx, by simpa using hown, Only.refl _ _, .inl rfl⟩
  · have hcells : ∀ (j : Nat) u, (bv news)[j]? = some u → w.cell? (ad.add j) = some u := by
      intro j u hu
      rcases Nat.eq_zero_or_pos m with h0 | h0
      · subst h0
        have hn : news = [] := List.eq_nil_of_length_eq_zero hr.1
        subst hn
        simp [bv] at hu
      · obtain ⟨ad', h, hc⟩ := hr.2.2 h0
        injection h with h
        subst h
        simp only [bv, List.getElem?_map, Option.map_eq_some_iff] at hu
        obtain ⟨x, hx, rfl⟩ := hu
        exact hc j x hx
    obtain ⟨v', w', hrun, h2, h3, _, h5⟩ := run_append_own_at (P := Tryd.prog) w base 22 ty 5 i (.int .u8 0) 1 1 Tryd.underlying22 hi hz0 hz1 hz2 rfl (by decide) _ n _ hown.2.2 ad m cx (bv news)
      (by rw [bv_length, hr.1]; omega) hcells (bv_one _) (by unfold maxLen; omega) (by omega) hbase
    rw [← bv_append] at h2
    have hex : ∃ A' c', v' = .slice A' (n + m) c' := by
      rcases h2.2 with ⟨hv, h0⟩ | ⟨g, cap, cur, hv, _⟩
      · exact ⟨none, 0, by rw [hv, h0]⟩
      · exact ⟨_, _, hv⟩
    obtain ⟨A', c', hv⟩ := hex
    subst hv
    rw [ownBlock_slice, ownBlock_slice] at h5
    rw [ownBlock_slice] at h3
    exact ⟨A', c', w', hrun, ⟨hll, hb, h2⟩, Only.of_grown h3 (fun k hk => hk), h5⟩

theorem wp_append_rb {w : World} {o : Oper} {a : Act} {K : Act → World → Prop} {Q : Exit → Act → World → Prop} (s x : Operand)
    (ho : o.op = .call { callee := .builtin .append, args := #[s, x], argTypes := #[22, 22] })
    {base : Nat} {A : Option Addr} {n c : Nat} {l : List Nat} {X : Option Addr} {m cx : Nat} {news : List Nat}
    (hs : a.eval s = .slice A n c) (hx : a.eval x = .slice X m cx) (hown : Own w base A n c l) (hr : RB w X m news) (hlen : n + m ≤ 1000000) (hbase : base ≤ w.heap.size)
    (h : ∀ A' c' w', Own w' base A' (n + m) c' (l ++ news) → Only (fun k => blk A = some k) w w' → (blk A' = blk A ∨ blk A' = some w.heap.size) → K (a.put o.dst (.slice A' (n + m) c')) w') :
    o.wp Tryd.prog a w K Q := by
  obtain ⟨A', c', w', hrun, h2, h3, h4⟩ := run_append_rb w o.type hown (cx := cx) hr hlen hbase
  unfold Oper.wp execOp
  simp only [ho, resolve, invoke, builtin, Sem.run_bind, Sem.run_pure, Result.andThen_ok, List.map_toArray, List.map_cons, List.map_nil, hs, hx, hrun]
  exact h A' c' w' h2 h3 h4

theorem wpList_append_rb {w : World} {ops : Array Oper} {rest : List Oper} {o : Oper} {a : Act} {Q : Exit → Act → World → Prop} (hgd : o.guard = none) (s x : Operand)
    (ho : o.op = .call { callee := .builtin .append, args := #[s, x], argTypes := #[22, 22] })
    {base : Nat} {A : Option Addr} {n c : Nat} {l : List Nat} {X : Option Addr} {m cx : Nat} {news : List Nat}
    (hs : a.eval s = .slice A n c) (hx : a.eval x = .slice X m cx) (hown : Own w base A n c l) (hr : RB w X m news) (hlen : n + m ≤ 1000000) (hbase : base ≤ w.heap.size)
    (h : ∀ A' c' w', Own w' base A' (n + m) c' (l ++ news) → Only (fun k => blk A = some k) w w' → (blk A' = blk A ∨ blk A' = some w.heap.size) → wpList Tryd.prog ops Q rest (a.put o.dst (.slice A' (n + m) c')) w') :
    wpList Tryd.prog ops Q (o :: rest) a w :=
  wpList_plain hgd fun _ hK => wp_append_rb s x ho hs hx hown hr hlen hbase fun A' c' w' h2 h3 h4 => hK _ _ (h A' c' w' h2 h3 h4)

theorem step_append_rb {w : World} {ops : Array Oper} {o : Oper} {a : Act} {K : Act → World → Prop} {Q : Exit → Act → World → Prop} {E : Prop} (hgd : o.guard = none) (s x : Operand)
    (ho : o.op = .call { callee := .builtin .append, args := #[s, x], argTypes := #[22, 22] })
    {base : Nat} {A : Option Addr} {n c : Nat} {l : List Nat} {X : Option Addr} {m cx : Nat} {news : List Nat}
    (hs : a.eval s = .slice A n c) (hx : a.eval x = .slice X m cx) (hown : Own w base A n c l) (hr : RB w X m news) (hlen : n + m ≤ 1000000) (hbase : base ≤ w.heap.size)
    (h : ∀ A' c' w', Own w' base A' (n + m) c' (l ++ news) → Only (fun k => blk A = some k) w w' → (blk A' = blk A ∨ blk A' = some w.heap.size) → K (a.put o.dst (.slice A' (n + m) c')) w') :
    if Region.wanted o (yielded ops a.tmps) = true then Oper.wp Tryd.prog o a w K Q else E := by
  have hw : Region.wanted o (yielded ops a.tmps) = true := by simp [Region.wanted, hgd]
  rw [if_pos hw]
  exact wp_append_rb s x ho hs hx hown hr hlen hbase h
end Go.Proofs.YtigkjjbdbficnaaDoor
