/-
  Package codec, type In: N, Raw, Bad, Left, Done. Slices of records: what a row of them holds, append of one.
-/
import Derived.Test.YtlhaempecidohaaGreatDoorJad
import Derived.Test.YtlhaempecidohaaGreatDoorJaa
import Derived.Test.YtlhaempecidohaaGreatDoorJac
import Derived.Deep.AppendLies
import Derived.Great.BuildSlice
set_option linter.unusedSimpArgs false
set_option linter.unusedVariables false
namespace Go.Proofs.YtlhaempecidohaaGreatDoor
open Go.RowKit
def sizeN (s : Int) : Int := if 1 ≤ s ∧ s ≤ 7 then s else -1
def Gave (K : Nat → Prop) (w : World) (g : Nat) (i : InM) (s : Int) (e : Ending) (w' : World) : Prop :=
  e = .returned (.int .i64 ((num (i.got (sizeN s)) : Nat) : Int)) ∧ InP K w' g (i.rest (sizeN s)) ∧ Only (fun k => k = g) w w'
theorem got_mem {K : Nat → Prop} {w : World} {g : Nat} {i : InM} (h : InP K w g i) (n : Int) : ∀ x ∈ i.got n, x < 256 := by
  obtain ⟨A, m, c, h1, h2, h3, h4⟩ := h
  intro x hx
  unfold InM.got at hx
  split at hx
  · exact h2.2.1 x (List.mem_of_mem_take hx)
  · cases hx
theorem got_len (i : InM) (n : Int) (h : n ≤ 7) : (i.got n).length ≤ 7 := by
  unfold InM.got
  split
  · rw [List.length_take]; omega
  · simp
theorem sizeN_le (s : Int) : sizeN s ≤ 7 ∧ -1 ≤ sizeN s := by unfold sizeN; split <;> omega
set_option maxHeartbeats 1000000 in
theorem in_n {K : Nat → Prop} (g : Nat) (i : InM) (s : Int) (w : World) (h : InP K w g i) :
    Calls Tryz.prog 115 #[.pointer (some ⟨g, 0, none⟩), .int .i64 s] w (Gave K w g i s) := by
  have hm := got_mem h (sizeN s)
  have hl := got_len i (sizeN s) (sizeN_le s).1
  have HT0 := take_any g i (sizeN s) w h
  have hcase : (s < 1 ∧ sizeN s = -1) ∨ (1 ≤ s ∧ s ≤ 7 ∧ sizeN s = s) ∨ (1 ≤ s ∧ 7 < s ∧ sizeN s = -1) := by
    unfold sizeN
    split <;> omega
  clear h
  unfold Gave
  unfold Took at HT0
  generalize i.got (sizeN s) = L at *
  generalize i.rest (sizeN s) = J at *
  rcases hcase with ⟨h1, es⟩ | ⟨h1, h2, es⟩ | ⟨h1, h2, es⟩
  all_goals
    rw [es] at HT0
    have HT := Lib.hid HT0
    clear HT0 es
    go_enter Tryz.func115, Tryz.ntmps115
    go_wp2_with fail
    refine HT.out.mono ?_
    rintro e w1 ⟨A, m, c, rfl, hmc, hr, hi, ho⟩
    have hll := hr.1
    have HI := Lib.hid hi
    have HO := Lib.hid ho
    clear hi ho
    go_wp2
    go_loop [5, 18] (fun v i => ∃ k : Nat, k ≤ m ∧ i = .int .i64 k ∧ v = .int .i64 ((num (L.take k) : Nat) : Int)) (fun _ i => m - (intOf i).toNat)
    case atStart => exact ⟨0, Nat.zero_le _, rfl, rfl⟩
    case round =>
      obtain ⟨k, hk, rfl, rfl⟩ := hrel
      by_cases hlt : k < m
      · obtain ⟨ad, x, rfl, hx, hx2, hcell⟩ := hr.at_ hlt
        have hv : num (L.take k) < 281474976710656 := num_lt_of (n := 6) (fun y hy => hm y (List.mem_of_mem_take hy)) (by rw [List.length_take]; omega)
        have HS : Hid (num (L.take (k + 1)) = num (L.take k) * 256 + x) := by show _ = _; rw [take_succ' hx, num_snoc]
        have b := shl_or (num (L.take k)) x hv hx2
        have HX := Lib.hid hx
        clear hx
        go_wp2
        go_round
        case rel => exact ⟨k + 1, by omega, by go_num, by rw [HS.out]; go_num⟩
        case measure => simp [intOf]; omega
      · obtain rfl : k = m := by omega
        rw [List.take_of_length_le (by omega)]
        go_wp2
        go_ret
        exact ⟨rfl, HI.out, HO.out⟩
def Raw (K : Nat → Prop) (w : World) (g : Nat) (i : InM) (n : Int) (e : Ending) (w' : World) : Prop :=
  ∃ A m c, e = .returned (.slice A m c) ∧ m ≤ c ∧ RB w' A m (i.got n) ∧ InP K w' g (i.rest n) ∧ Only (fun k => k = g) w w' ∧ ∀ q, blk A = some q → w.heap.size ≤ q
set_option maxHeartbeats 400000 in
theorem in_raw {K : Nat → Prop} (g : Nat) (i : InM) (n : Int) (w : World) (h : InP K w g i) (h3 : i.l.length ≤ 10000000) :
    Calls Tryz.prog 150 #[.pointer (some ⟨g, 0, none⟩), .int .i64 n] w (Raw K w g i n) := by
  have hlt := (Array.getElem?_eq_some_iff.1 h.choose_spec.choose_spec.choose_spec.1).1
  have hgl : (i.got n).length ≤ 10000000 := by
    unfold InM.got
    split
    · rw [List.length_take]; omega
    · simp
  go_enter Tryz.func150, Tryz.ntmps150
  go_wp2_with fail
  refine (take_any g i n w h).mono ?_
  rintro e w1 ⟨A, m, c, rfl, hmc, hr, hi, ho⟩
  go_wp2_with fail
  refine (bclone A m c _ w1 hr (by have := hr.1; omega)).mono ?_
  rintro e w2 ⟨A', c', rfl, hown, hb⟩
  go_wp2
  go_ret
  exact ⟨A', m, c', rfl, hown.le, hown.read, hi.below hb, ho.trans (Only.of_below hb (fun _ => False)) (fun _ _ h => h.elim), fun q hq => Nat.le_trans ho.size (hown.lt q hq).1⟩
set_option maxHeartbeats 400000 in
theorem in_bad {K : Nat → Prop} (g : Nat) (i : InM) (w : World) (h : InP K w g i) :
    Calls Tryz.prog 152 #[.pointer (some ⟨g, 0, none⟩)] w fun e w' => e = .returned (.bool i.bad) ∧ w = w' := by
  obtain ⟨A, m, c, hg, hr, hc, hb⟩ := h
  have c1 : w.cell? ⟨g, 1, none⟩ = some (.bool i.bad) := cell_of_row w g 1 _ _ _ hg
  clear hr hg hb
  go_enter Tryz.func152, Tryz.ntmps152
  go_wp2
  go_ret
  exact ⟨rfl, rfl⟩
set_option maxHeartbeats 400000 in
theorem in_left {K : Nat → Prop} (g : Nat) (i : InM) (w : World) (h : InP K w g i) :
    Calls Tryz.prog 151 #[.pointer (some ⟨g, 0, none⟩)] w fun e w' => e = .returned (.int .i64 (i.l.length : Nat)) ∧ w = w' := by
  obtain ⟨A, m, c, hg, hr, hc, hb⟩ := h
  have c0 : w.cell? ⟨g, 0, none⟩ = some (.slice A m c) := cell_of_row w g 0 _ _ _ hg
  have HL := Lib.hid hr.1
  clear hr hg hb
  go_enter Tryz.func151, Tryz.ntmps151
  go_wp2
  go_ret
  exact ⟨by rw [HL.out]; rfl, rfl⟩
end Go.Proofs.YtlhaempecidohaaGreatDoor
namespace Go.Proofs.YtlhaempecidohaaGreatDoor
open Go.RowKit
/-- a record as it lies in memory -/
structure Entry where
  i : Nat
  k : Nat
  A : Option Addr
  n : Nat
  c : Nat
  p : List Nat
def Entry.rec_ (e : Entry) : RecP := (e.i, e.k, e.p)
def Entry.cells (e : Entry) : List Value := [.int .i64 (e.i : Int), .int .i64 (e.k : Int), .slice e.A e.n e.c]
def rows (es : List Entry) : List Value := es.flatMap Entry.cells
theorem rows_len (es : List Entry) : (rows es).length = es.length * 3 := by
  induction es with
  | nil => rfl
  | cons e es ih => simp only [rows, List.flatMap_cons, List.length_append, List.length_cons] at *; rw [ih]; simp [Entry.cells]; omega
theorem rows_snoc (es : List Entry) (e : Entry) : rows (es ++ [e]) = rows es ++ e.cells := by simp [rows]
theorem rows_get (es : List Entry) (j : Nat) (e : Entry) (h : es[j]? = some e) : (rows es)[j * 3]? = some (.int .i64 (e.i : Int)) ∧ (rows es)[j * 3 + 1]? = some (.int .i64 (e.k : Int)) ∧ (rows es)[j * 3 + 2]? = some (.slice e.A e.n e.c) := by
  induction es generalizing j with
  | nil => cases h
  | cons x es ih =>
    match j with
    | 0 => cases h; exact ⟨rfl, rfl, rfl⟩
    | j + 1 =>
      have := ih j h
      rw [show (j + 1) * 3 = j * 3 + 3 by omega]
      exact this
/-- The bytes of one record's payload lie apart from the row's own block. -/
def Pays (w : World) (A : Option Addr) (e : Entry) : Prop := RB w e.A e.n e.p ∧ (0 < e.n → ∀ k, blk e.A = some k → blk A ≠ some k)
/-- A row of records of the call's own. -/
def Recs (w : World) (base : Nat) (T : TypeId) (A : Option Addr) (n c : Nat) (es : List Entry) : Prop :=
  es.length = n ∧ w.ownsRow base T 3 (.slice A n c) n (rows es) ∧ ∀ e ∈ es, Pays w A e
theorem RB.only0 {S : Nat → Prop} {w w' : World} {A : Option Addr} {n : Nat} {l : List Nat} (h : RB w A n l) (ho : Only S w w') (hs : 0 < n → ∀ k, blk A = some k → ¬ S k) : RB w' A n l := by
  by_cases h0 : 0 < n
  · exact h.only ho (hs h0)
  · exact ⟨h.1, h.2.1, fun hh => absurd hh h0⟩
theorem RB.lt {w : World} {A : Option Addr} {n : Nat} {l : List Nat} (h : RB w A n l) (h0 : 0 < n) : ∀ k, blk A = some k → k < w.heap.size := by
  intro k hk
  obtain ⟨ad, x, rfl, hx, -, hc⟩ := h.at_ h0
  simp only [blk, Option.map_some, Option.some.injEq] at hk
  have := World.block_lt_of_cell? _ _ hc
  have e : (ad.add 0).block = ad.block := by unfold Addr.add; split <;> rfl
  rw [e] at this
  omega
theorem Recs.nil (w : World) (base : Nat) (T : TypeId) : Recs w base T none 0 0 [] := ⟨rfl, World.ownsRow_nil _ _ _ _, by simp⟩
theorem Recs.lt {w : World} {base : Nat} {T : TypeId} {A : Option Addr} {n c : Nat} {es : List Entry} (h : Recs w base T A n c es) : ∀ k, blk A = some k → base ≤ k ∧ k < w.heap.size := fun k hk => h.2.1.lt k (by rw [ownBlock_slice]; exact hk)
theorem Recs.only {S : Nat → Prop} {w w' : World} {base : Nat} {T : TypeId} {A : Option Addr} {n c : Nat} {es : List Entry} (h : Recs w base T A n c es) (ho : Only S w w') (hA : ∀ k, blk A = some k → ¬ S k)
    (hp : ∀ e ∈ es, 0 < e.n → ∀ k, blk e.A = some k → ¬ S k) : Recs w' base T A n c es := by
  refine ⟨h.1, ?_, fun e he => ⟨(h.2.2 e he).1.only0 ho (hp e he), (h.2.2 e he).2⟩⟩
  refine ⟨h.2.1.1, ?_⟩
  rcases h.2.1.2 with hn | ⟨g, cap, cur, hv, hb, hh, r⟩
  · exact .inl hn
  · refine .inr ⟨g, cap, cur, hv, hb, ?_, r⟩
    refine ho.heap hh (hA g ?_)
    have := congrArg Value.ownBlock hv
    rw [ownBlock_slice] at this
    exact this
theorem Recs.below {w w' : World} {base : Nat} {T : TypeId} {A : Option Addr} {n c : Nat} {es : List Entry} (h : Recs w base T A n c es) (hb : Below w.heap.size w w') : Recs w' base T A n c es :=
  h.only (Only.of_below hb (fun _ => False)) (fun _ _ h => h) (fun _ _ _ _ _ h => h)
theorem Recs.le {w : World} {base : Nat} {T : TypeId} {A : Option Addr} {n c : Nat} {es : List Entry} (h : Recs w base T A n c es) : n ≤ c := by
  rcases h.2.1.2 with ⟨hv, rfl⟩ | ⟨g, cap, cur, hv, _, _, hle, _⟩
  · omega
  · injection hv with _ _ hc; omega
/-- A slice of records, read. -/
def RecsR (w : World) (A : Option Addr) (n : Nat) (es : List Entry) : Prop :=
  es.length = n ∧ (0 < n → ∃ g, A = some ⟨g, 0, none⟩ ∧ ∀ j e, es[j]? = some e → w.cell? ⟨g, j * 3, none⟩ = some (.int .i64 (e.i : Int)) ∧ w.cell? ⟨g, j * 3 + 1, none⟩ = some (.int .i64 (e.k : Int)) ∧ w.cell? ⟨g, j * 3 + 2, none⟩ = some (.slice e.A e.n e.c))
    ∧ ∀ e ∈ es, RB w e.A e.n e.p
theorem Recs.read {w : World} {base : Nat} {T : TypeId} {A : Option Addr} {n c : Nat} {es : List Entry} (h : Recs w base T A n c es) : RecsR w A n es := by
  refine ⟨h.1, fun hn => ?_, fun e he => (h.2.2 e he).1⟩
  obtain ⟨g, cap, hv, _, _⟩ := h.2.1.form hn
  injection hv with hA _ _
  subst hA
  refine ⟨g, rfl, fun j e he => ?_⟩
  have hj : j < n := by rw [← h.1]; exact (List.getElem?_eq_some_iff.1 he).1
  obtain ⟨r1, r2, r3⟩ := rows_get es j e he
  exact ⟨by rw [h.2.1.cellAt (j * 3) (by omega), r1], by rw [h.2.1.cellAt (j * 3 + 1) (by omega), r2], by rw [h.2.1.cellAt (j * 3 + 2) (by omega), r3]⟩
theorem RecsR.take {w : World} {A : Option Addr} {n : Nat} {es : List Entry} (h : RecsR w A n es) {k : Nat} (hk : k ≤ n) : RecsR w A k (es.take k) := by
  refine ⟨by rw [List.length_take, h.1]; omega, fun h0 => ?_, fun e he => h.2.2 e (List.mem_of_mem_take he)⟩
  obtain ⟨g, e1, e2⟩ := h.2.1 (by omega)
  refine ⟨g, e1, fun j e he => e2 j e ?_⟩
  rw [List.getElem?_take] at he
  split at he
  · exact he
  · cases he
theorem wp_append_rec {w : World} {ops : Array Oper} {rest : List Oper} {o : Oper} {a : Act} {Q : Exit → Act → World → Prop} (hgd : o.guard = none) (s x : Operand) (S T : TypeId) (bytes : Nat)
    (hu : Tryz.prog.underlying S = some (.slice T)) (hi : (Tryz.prog.info? T).map (fun i => (i.zero, i.size, i.bytes)) = some (some (.agg #[.int .i64 0, .int .i64 0, .slice none 0 0]), 3, bytes)) (hby : bytes ≤ 100)
    (ho : o.op = .call { callee := .builtin .append, args := #[s, x], argTypes := #[S, S] })
    {base : Nat} {A : Option Addr} {n c : Nat} {es : List Entry} {g cx : Nat} {e : Entry} (hs : a.eval s = .slice A n c) (hx : a.eval x = .slice (some ⟨g, 0, none⟩) 1 cx) (hown : Recs w base T A n c es)
    (hg : ∀ (j : Nat) u, e.cells[j]? = some u → w.cell? ⟨g, j, none⟩ = some u) (hp : Pays w A e) (hlen : n ≤ 100000000) (hbase : base ≤ w.heap.size)
    (h : ∀ A' c' w', Recs w' base T A' (n + 1) c' (es ++ [e]) → Only (fun k => blk A = some k) w w' → (blk A' = blk A ∨ blk A' = some w.heap.size) → wpList Tryz.prog ops Q rest (a.put o.dst (.slice A' (n + 1) c')) w') :
    wpList Tryz.prog ops Q (o :: rest) a w := by
  refine wpList_plain hgd fun _ hK => ?_
  obtain ⟨i, hi, hz0, hz1, hz2⟩ := info_parts hi
  obtain ⟨v', w', hrun, h2, h3, _, h5⟩ := run_append_own_at (P := Tryz.prog) w base S o.type T i _ 3 bytes hu hi hz0 hz1 hz2 rfl (by decide) _ n _ hown.2.1 ⟨g, 0, none⟩ 1 cx e.cells rfl
    (fun j u hu => by
      have hadd : (⟨g, 0, none⟩ : Addr).add j = ⟨g, j, none⟩ := by unfold Addr.add; split <;> simp_all
      rw [hadd]; exact hg j u hu)
    (by simp [Entry.cells, Value.oneCell']) (by unfold maxLen; omega) (by have : (n + 1) * bytes ≤ 100000001 * 100 := Nat.mul_le_mul (by omega) hby; omega) hbase
  rw [← rows_snoc] at h2
  have hex : ∃ A' c', v' = .slice A' (n + 1) c' := by
    rcases h2.2 with ⟨hv, h0⟩ | ⟨g, cap, cur, hv, _⟩
    · omega
    · exact ⟨_, _, hv⟩
  obtain ⟨A', c', hv⟩ := hex
  subst hv
  rw [ownBlock_slice, ownBlock_slice] at h5
  rw [ownBlock_slice] at h3
  have hO : Only (fun k => blk A = some k) w w' := Only.of_grown h3 (fun k hk => hk)
  have hpay : ∀ e' ∈ es ++ [e], Pays w' A' e' := by
    intro e' he'
    have hp' : Pays w A e' := by
      rcases List.mem_append.1 he' with h | h
      · exact hown.2.2 e' h
      · rw [List.mem_singleton.1 h]; exact hp
    refine ⟨hp'.1.only0 hO (fun h0 k hk hb => hp'.2 h0 k hk hb), fun h0 k hk hb => ?_⟩
    rcases h5 with h5 | h5
    · exact hp'.2 h0 k hk (by rw [← h5]; exact hb)
    · have := hp'.1.lt h0 k hk
      rw [h5] at hb
      injection hb with hb
      omega
  have hK2 := hK _ _ (h A' c' w' ⟨by rw [List.length_append, hown.1]; rfl, h2, hpay⟩ hO h5)
  unfold Oper.wp execOp
  simp only [ho, resolve, invoke, builtin, Sem.run_bind, Sem.run_pure, Result.andThen_ok, List.map_toArray, List.map_cons, List.map_nil, hs, hx, hrun]
  exact hK2
theorem inf166 : (Tryz.prog.info? 166).map (fun i => (i.zero, i.size, i.bytes)) = some (some (.agg #[.int .i64 0, .int .i64 0, .slice none 0 0]), 3, 40) := by kernel_rfl
theorem und162 : Tryz.prog.underlying 162 = some (.slice 166) := by kernel_rfl
theorem built166 (x0 x1 : Int) (A : Option Addr) (n c : Nat) : Tryz.prog.built 166 [(0, .int .i64 x0), (1, .int .i64 x1), (2, .slice A n c)] = some #[.int .i64 x0, .int .i64 x1, .slice A n c] := by kernel_rfl
end Go.Proofs.YtlhaempecidohaaGreatDoor
