/-
  Package index: Of. Package store: marks. Package index: put, PutFlags. Package index: PutIndex. Package store: pages.
-/
import Derived.Test.YtlhaempecidohaaGreatDoorJbb
import Derived.Test.YtlhaempecidohaaGreatDoorJay
import Derived.Test.YtlhaempecidohaaGreatDoorJbc
import Derived.Test.YtlhaempecidohaaGreatDoorJba
import Derived.Test.YtlhaempecidohaaGreatDoorJas
import Derived.Test.YtlhaempecidohaaGreatDoorJak
set_option linter.unusedSimpArgs false
set_option linter.unusedVariables false
namespace Go.Proofs.YtlhaempecidohaaGreatDoor
open Go.RowKit
theorem RowO.type {w : World} {base : Nat} {T : TypeId} {k : Nat} {A : Option Addr} {n c : Nat} {vs : List (List Value)} (h : RowO w base T k A n c vs) : ∀ q, blk A = some q → ∃ cs, w.heap[q]? = some (.cells cs T (0, 0)) := by
  intro q hq
  rcases h.own.2 with ⟨hv, -⟩ | ⟨g, cap, cur, hv, -, hh, -⟩
  · injection hv with hA
    rw [hA] at hq
    cases hq
  · injection hv with hA
    rw [hA] at hq
    injection hq with hq
    rw [← hq]
    exact ⟨cur, hh⟩
theorem RowO.apart {w : World} {b b' : Nat} {T T' : TypeId} {k k' : Nat} {A A' : Option Addr} {n c n' c' : Nat} {vs vs' : List (List Value)} (h : RowO w b T k A n c vs) (h' : RowO w b' T' k' A' n' c' vs') (hT : T ≠ T') : ∀ q, blk A' = some q → ¬ blk A = some q := by
  intro q h1 h2
  obtain ⟨cs, e⟩ := h.type q h2
  obtain ⟨cs', e'⟩ := h'.type q h1
  rw [e] at e'
  injection e' with e'
  injection e' with _ e'
  exact hT e'
theorem row149 : (Tryz.prog.underlying 149).map TypeDesc.isRow = some true := by kernel_rfl
theorem size149 : (Tryz.prog.info? 149).map (·.size) = some 5 := by kernel_rfl
theorem row151 : (Tryz.prog.underlying 151).map TypeDesc.isRow = some true := by kernel_rfl
theorem size151 : (Tryz.prog.info? 151).map (·.size) = some 2 := by kernel_rfl
theorem inf226 : (Tryz.prog.info? 226).map (fun i => (i.zero, i.size, i.bytes)) = some (some (.agg #[.int .u32 0, .int .i64 0]), 2, 16) := by kernel_rfl
theorem inf160 : (Tryz.prog.info? 160).map (fun i => (i.zero, i.size, i.bytes)) = some (some (.agg #[.int .u32 0, .int .i64 0]), 2, 16) := by kernel_rfl
theorem und147 : Tryz.prog.underlying 147 = some (.slice 226) := by kernel_rfl
theorem und89 : Tryz.prog.underlying 89 = some (.slice 160) := by kernel_rfl
/-- two results, each of a variable of its own -/
theorem results_cell2 {P : Program} {fn : Func} {p u : Tmp} {ty tz : TypeId} (h : fn.results = #[.cell p ty, .cell u tz]) (tmps : Array Value) (w : World) (g g' : Nat) (t t' : TypeId) (cs cs' : Array Value) (fr fr' : Nat × Nat)
    (hp : tmps.getD p undef = .pointer (some ⟨g, 0, none⟩)) (hg : w.heap[g]? = some (.cells cs t fr)) (hr : (P.underlying ty).map TypeDesc.isRow = some true) (hi : (P.info? ty).map (·.size) = some cs.size)
    (hp' : tmps.getD u undef = .pointer (some ⟨g', 0, none⟩)) (hg' : w.heap[g']? = some (.cells cs' t' fr')) (hr' : (P.underlying tz).map TypeDesc.isRow = some true) (hi' : (P.info? tz).map (·.size) = some cs'.size) :
    (results fn tmps).run P w = .ok (.tuple #[.agg cs, .agg cs']) w := by
  obtain ⟨d, hu, hd⟩ := rowT hr
  obtain ⟨d', hu', hd'⟩ := rowT hr'
  have h1 := run_loadVar_row w g t ty cs fr d hg hu (by cases d <;> simp_all) hi
  have h2 := run_loadVar_row w g' t' tz cs' fr' d' hg' hu' (by cases d' <;> simp_all) hi'
  have hp1 : tmps[p]?.getD undef = .pointer (some ⟨g, 0, none⟩) := by simpa using hp
  have hp2 : tmps[u]?.getD undef = .pointer (some ⟨g', 0, none⟩) := by simpa using hp'
  simp [results, h, hp1, hp2, asAddr, h1, h2]
/-- what Of hands back -/
def OfE (w : World) (L : LogS) (t : Nat) (e : Ending) (w' : World) : Prop :=
  ∃ A1 c1 A2 c2 m, e = .returned (.tuple #[.agg (idxCells (ofI L t) (.slice A1 m c1)).toArray, .agg (flgCells (ofF L) (.slice A2 m c2)).toArray]) ∧
    RowO w' w.heap.size 226 2 A1 m c1 ((ofI L t).L.map entV) ∧ RowO w' w.heap.size 160 2 A2 m c2 ((ofF L).L.map markV) ∧ Below w.heap.size w w'
/-- in the midst of Of: the index at g4, the flags at g5, their rows -/
structure OfM (w : World) (g4 g5 : Nat) (x : IdxS) (f : FlgS) (A1 : Option Addr) (c1 : Nat) (A2 : Option Addr) (c2 n : Nat) (es : List (Nat × Nat)) (ms : List (Nat × Int)) : Prop where
  b1 : w.heap[g4]? = some (.cells (idxCells x (.slice A1 n c1)).toArray 149 (0, 0))
  b2 : w.heap[g5]? = some (.cells (flgCells f (.slice A2 n c2)).toArray 151 (0, 0))
  r1 : RowO w (g5 + 1) 226 2 A1 n c1 (es.map entV)
  r2 : RowO w (g5 + 1) 160 2 A2 n c2 (ms.map markV)
  lt : g4 < g5
section
variable {w w' w4 w5 : World} {g4 g5 : Nat} {x : IdxS} {f : FlgS} {A1 : Option Addr} {c1 : Nat} {A2 : Option Addr} {c2 n n' : Nat} {es : List (Nat × Nat)} {ms : List (Nat × Int)}
theorem OfM.below (h : OfM w g4 g5 x f A1 c1 A2 c2 n es ms) (hb : Below w.heap.size w w') : OfM w' g4 g5 x f A1 c1 A2 c2 n es ms :=
  ⟨(hb.block g4 (Array.getElem?_eq_some_iff.1 h.b1).1).trans h.b1, (hb.block g5 (Array.getElem?_eq_some_iff.1 h.b2).1).trans h.b2, h.r1.below hb, h.r2.below hb, h.lt⟩
end
/-- an entry more -/
theorem of_ent {w w4 w5 : World} {g4 g5 : Nat} {x : IdxS} {f : FlgS} {A1 A5 : Option Addr} {c1 c5 : Nat} {A2 : Option Addr} {c2 n : Nat} {es : List (Nat × Nat)} {ms : List (Nat × Int)} {e : Nat × Nat}
    (h : OfM w g4 g5 x f A1 c1 A2 c2 n es ms) (hb4 : Below w.heap.size w w4) (hr5 : RowO w5 (g5 + 1) 226 2 A5 (n + 1) c5 (es.map entV ++ [entV e])) (ho5 : Only (fun b => blk A1 = some b) w4 w5) :
    (w5.setCell ⟨g4, 4, none⟩ (.slice A5 (n + 1) c5)).heap[g4]? = some (.cells (idxCells x (.slice A5 (n + 1) c5)).toArray 149 (0, 0)) ∧
    (w5.setCell ⟨g4, 4, none⟩ (.slice A5 (n + 1) c5)).heap[g5]? = some (.cells (flgCells f (.slice A2 n c2)).toArray 151 (0, 0)) ∧
    RowO (w5.setCell ⟨g4, 4, none⟩ (.slice A5 (n + 1) c5)) (g5 + 1) 226 2 A5 (n + 1) c5 ((es ++ [e]).map entV) ∧
    RowO (w5.setCell ⟨g4, 4, none⟩ (.slice A5 (n + 1) c5)) (g5 + 1) 160 2 A2 n c2 (ms.map markV) ∧ Only (fun b => b = g4 ∨ blk A1 = some b) w (w5.setCell ⟨g4, 4, none⟩ (.slice A5 (n + 1) c5)) := by
  have h4 := h.below hb4
  have hlt := h.lt
  have n1 : ¬ blk A1 = some g4 := fun e => by have := (h.r1.lt _ e).1; omega
  have n2 : ¬ blk A1 = some g5 := fun e => by have := (h.r1.lt _ e).1; omega
  have ho6 : Only (fun b => b = g4) w5 (w5.setCell ⟨g4, 4, none⟩ (.slice A5 (n + 1) c5)) := (Only.refl (fun b => b = g4) w5).setCell (p := ⟨g4, 4, none⟩) (.inl rfl) _
  refine ⟨blk_set (ho5.heap h4.b1 n1) 4 _, ho6.heap (ho5.heap h4.b2 n2) (by omega), ?_, ?_, ?_⟩
  · rw [List.map_append]
    exact hr5.only ho6 (fun q hq e => by have := (hr5.lt q hq).1; omega)
  · exact (h4.r2.only ho5 (fun q hq e => h4.r1.apart h4.r2 (by decide) q hq e)).only ho6 (fun q hq e => by have := (h.r2.lt q hq).1; omega)
  · exact ((Only.of_below hb4 (fun b => b = g4 ∨ blk A1 = some b)).trans ho5 (fun _ _ h => .inr h)).trans ho6 (fun _ _ h => .inl h)
/-- a mark more -/
theorem of_mark {w w4 w5 : World} {g4 g5 : Nat} {x : IdxS} {f : FlgS} {A1 A5 : Option Addr} {c1 c5 : Nat} {A2 : Option Addr} {c2 n n1 : Nat} {es : List (Nat × Nat)} {ms : List (Nat × Int)} {e : Nat × Int} (hlt : g4 < g5)
    (b1 : w.heap[g4]? = some (.cells (idxCells x (.slice A1 n1 c1)).toArray 149 (0, 0))) (b2 : w.heap[g5]? = some (.cells (flgCells f (.slice A2 n c2)).toArray 151 (0, 0)))
    (r1 : RowO w (g5 + 1) 226 2 A1 n1 c1 (es.map entV)) (r2 : RowO w (g5 + 1) 160 2 A2 n c2 (ms.map markV))
    (hb4 : Below w.heap.size w w4) (hr5 : RowO w5 (g5 + 1) 160 2 A5 (n + 1) c5 (ms.map markV ++ [markV e])) (ho5 : Only (fun b => blk A2 = some b) w4 w5) (hn1 : n1 = n + 1) :
    OfM (w5.setCell ⟨g5, 1, none⟩ (.slice A5 (n + 1) c5)) g4 g5 x f A1 c1 A5 c5 (n + 1) es (ms ++ [e]) ∧ Only (fun b => b = g5 ∨ blk A2 = some b) w (w5.setCell ⟨g5, 1, none⟩ (.slice A5 (n + 1) c5)) := by
  subst hn1
  have m1 : ¬ blk A2 = some g4 := fun e => by have := (r2.lt _ e).1; omega
  have m2 : ¬ blk A2 = some g5 := fun e => by have := (r2.lt _ e).1; omega
  have q1 := (hb4.block g4 (Array.getElem?_eq_some_iff.1 b1).1).trans b1
  have q2 := (hb4.block g5 (Array.getElem?_eq_some_iff.1 b2).1).trans b2
  have ho6 : Only (fun b => b = g5) w5 (w5.setCell ⟨g5, 1, none⟩ (.slice A5 (n + 1) c5)) := (Only.refl (fun b => b = g5) w5).setCell (p := ⟨g5, 1, none⟩) (.inl rfl) _
  refine ⟨⟨ho6.heap (ho5.heap q1 m1) (by omega), blk_set (ho5.heap q2 m2) 1 _, ?_, ?_, hlt⟩, ?_⟩
  · exact ((r1.below hb4).only ho5 (fun q hq e => (r2.below hb4).apart (r1.below hb4) (by decide) q hq e)).only ho6 (fun q hq e => by have := (r1.lt q hq).1; omega)
  · rw [List.map_append]
    exact hr5.only ho6 (fun q hq e => by have := (hr5.lt q hq).1; omega)
  · exact ((Only.of_below hb4 (fun b => b = g5 ∨ blk A2 = some b)).trans ho5 (fun _ _ h => .inr h)).trans ho6 (fun _ _ h => .inl h)
set_option maxRecDepth 8000 in
set_option maxHeartbeats 3000000 in
theorem of_any (L : LogS) (A : Option Addr) (n c : Nat) (vs : List (List Value)) (t : Nat) (cl : Bool) (w : World) (hr : RowR w A n 6 vs) (hx : All2 (LiveR w) vs L.live) (hn : n ≤ 10000000) (hcl : cl = cleanS L) :
    Calls Tryz.prog 84 #[.agg (logCells L (.slice A n c) (t : Int) cl).toArray] w (OfE w L t) := by
  have hlx : L.live.length = n := by rw [← hx.length]; exact hr.len
  obtain ⟨ws, hws⟩ : ∃ ws, ws = ((w.alloc (.cells (logCells L (.slice A n c) (t : Int) cl).toArray 87)).alloc (.cells #[.string ⟨#[]⟩, .int .u32 0, .int .u32 0, .int .i64 0, .slice none 0 0] 149)).alloc (.cells #[.int .u32 0, .slice none 0 0] 151) := ⟨_, rfl⟩
  have hss : ws.heap.size = w.heap.size + 3 := by rw [hws]; simp
  have hbs : Below w.heap.size w ws := by rw [hws]; exact (((Below.refl _ _).alloc (Nat.le_refl _) _).alloc (by simp) _).alloc (by simp; omega) _
  have hg0 : ws.heap[w.heap.size]? = some (.cells (logCells L (.slice A n c) (t : Int) cl).toArray 87 (0, 0)) := by
    rw [hws, Below.heap_alloc _ _ _ (by simp; omega), Below.heap_alloc _ _ _ (by simp)]
    exact heap_alloc_new w _
  have hg1 : ws.heap[w.heap.size + 1]? = some (.cells #[.string ⟨#[]⟩, .int .u32 0, .int .u32 0, .int .i64 0, .slice none 0 0] 149 (0, 0)) := by
    rw [hws, Below.heap_alloc _ _ _ (by simp)]
    have := heap_alloc_new (w.alloc (.cells (logCells L (.slice A n c) (t : Int) cl).toArray 87)) (.cells #[.string ⟨#[]⟩, .int .u32 0, .int .u32 0, .int .i64 0, .slice none 0 0] 149)
    rwa [World.size_alloc] at this
  have hg2 : ws.heap[w.heap.size + 1 + 1]? = some (.cells #[.int .u32 0, .slice none 0 0] 151 (0, 0)) := by
    rw [hws]
    have := heap_alloc_new ((w.alloc (.cells (logCells L (.slice A n c) (t : Int) cl).toArray 87)).alloc (.cells #[.string ⟨#[]⟩, .int .u32 0, .int .u32 0, .int .i64 0, .slice none 0 0] 149)) (.cells #[.int .u32 0, .slice none 0 0] 151)
    rwa [World.size_alloc, World.size_alloc] at this
  unfold logCells at hws hg0 ⊢
  have HR := Lib.hid hr
  have HX := Lib.hid hx
  have HLX : Hid (L.live.length = n) := hlx
  have HG0 := Lib.hid hg0
  have HG1 := Lib.hid hg1
  have HG2 := Lib.hid hg2
  have HBS := Lib.hid hbs
  have HWS := Lib.hid hws
  have c0 : ws.cell? ⟨w.heap.size, 0, none⟩ = some (.string L.name) := cell_of_row ws _ 0 _ _ _ hg0
  have c1 : ws.cell? ⟨w.heap.size, 1, none⟩ = some (.int .u32 (L.epoch : Int)) := cell_of_row ws _ 1 _ _ _ hg0
  have c2 : ws.cell? ⟨w.heap.size, 2, none⟩ = some (.int .u32 (L.next : Int)) := cell_of_row ws _ 2 _ _ _ hg0
  have c3 : ws.cell? ⟨w.heap.size, 3, none⟩ = some (.slice A n c) := cell_of_row ws _ 3 _ _ _ hg0
  have c4 : ws.cell? ⟨w.heap.size, 4, none⟩ = some (.int .i64 (t : Int)) := cell_of_row ws _ 4 _ _ _ hg0
  have c5 : ws.cell? ⟨w.heap.size, 5, none⟩ = some (.bool cl) := cell_of_row ws _ 5 _ _ _ hg0
  obtain ⟨nb, hnb⟩ : ∃ b, decide (L.name = ByteArray.empty) = b := ⟨_, rfl⟩
  have hnb' := str_empty hnb
  have hso : L.sound = (cl && !nb) := by unfold LogS.sound; rw [hcl, ← hnb]
  have HSO := Lib.hid hso
  have HSS := Lib.hid hss
  clear hr hx hlx hg0 hg1 hg2 hbs hws hcl hnb hso hss
  cases hsd : (cl && !nb)
  · have hi : ofI L t = ⟨ByteArray.empty, 0, 0, 0, []⟩ := by unfold ofI; rw [HSO.out, hsd]; rfl
    have hf : ofF L = ⟨0, []⟩ := by unfold ofF; rw [HSO.out, hsd]; rfl
    unfold OfE
    rw [hi, hf]
    have s0 := cell_of_row ws _ 0 _ _ _ HG1.out
    have s1 := cell_of_row ws _ 1 _ _ _ HG1.out
    have s2 := cell_of_row ws _ 2 _ _ _ HG1.out
    have s3 := cell_of_row ws _ 3 _ _ _ HG1.out
    have s4 := cell_of_row ws _ 4 _ _ _ HG1.out
    have r0 := cell_of_row ws _ 0 _ _ _ HG2.out
    have r1 := cell_of_row ws _ 1 _ _ _ HG2.out
    have sf : ∀ j, ws.frozen? ⟨w.heap.size + 1, j, none⟩ = false := fun j => by simp [World.frozen?, HG1.out]
    have rf : ∀ j, ws.frozen? ⟨w.heap.size + 1 + 1, j, none⟩ = false := fun j => by simp [World.frozen?, HG2.out]
    go_enter Tryz.func84, Tryz.ntmps84
    go_upto_region 1 with fail
    rw [show World.alloc _ _ = ws from HWS.out.symm]
    obtain ⟨w5, hw5⟩ : ∃ w5, w5 = ((((((ws.setCell ⟨w.heap.size + 1, 0, none⟩ (.string ⟨#[]⟩)).setCell ⟨w.heap.size + 1, 1, none⟩ (.int .u32 0)).setCell ⟨w.heap.size + 1, 2, none⟩ (.int .u32 0)).setCell ⟨w.heap.size + 1, 3, none⟩ (.int .i64 0)).setCell ⟨w.heap.size + 1, 4, none⟩ (.slice none 0 0)).setCell ⟨w.heap.size + 1 + 1, 0, none⟩ (.int .u32 0)).setCell ⟨w.heap.size + 1 + 1, 1, none⟩ (.slice none 0 0) := ⟨_, rfl⟩
    have ho5 : Only (fun b => b = w.heap.size + 1 ∨ b = w.heap.size + 1 + 1) ws w5 := by
      rw [hw5]
      exact (((((((Only.refl (fun b => b = w.heap.size + 1 ∨ b = w.heap.size + 1 + 1) ws).setCell (p := ⟨w.heap.size + 1, 0, none⟩) (.inl (.inl rfl)) _).setCell (p := ⟨w.heap.size + 1, 1, none⟩) (.inl (.inl rfl)) _).setCell (p := ⟨w.heap.size + 1, 2, none⟩) (.inl (.inl rfl)) _).setCell (p := ⟨w.heap.size + 1, 3, none⟩) (.inl (.inl rfl)) _).setCell (p := ⟨w.heap.size + 1, 4, none⟩) (.inl (.inl rfl)) _).setCell (p := ⟨w.heap.size + 1 + 1, 0, none⟩) (.inl (.inr rfl)) _).setCell (p := ⟨w.heap.size + 1 + 1, 1, none⟩) (.inl (.inr rfl)) _
    have hh1 : w5.heap[w.heap.size + 1]? = some (.cells (idxCells ⟨ByteArray.empty, 0, 0, 0, []⟩ (.slice none 0 0)).toArray 149 (0, 0)) := by
      rw [hw5, Below.heap_setCell _ _ _ _ (by simp), Below.heap_setCell _ _ _ _ (by simp)]
      exact blk_set (blk_set (blk_set (blk_set (blk_set HG1.out 0 _) 1 _) 2 _) 3 _) 4 _
    have hh2 : w5.heap[w.heap.size + 1 + 1]? = some (.cells (flgCells ⟨0, []⟩ (.slice none 0 0)).toArray 151 (0, 0)) := by
      rw [hw5]
      have hz : (((((ws.setCell ⟨w.heap.size + 1, 0, none⟩ (.string ⟨#[]⟩)).setCell ⟨w.heap.size + 1, 1, none⟩ (.int .u32 0)).setCell ⟨w.heap.size + 1, 2, none⟩ (.int .u32 0)).setCell ⟨w.heap.size + 1, 3, none⟩ (.int .i64 0)).setCell ⟨w.heap.size + 1, 4, none⟩ (.slice none 0 0)).heap[w.heap.size + 1 + 1]? = some (.cells #[.int .u32 0, .slice none 0 0] 151 (0, 0)) := by
        rw [Below.heap_setCell _ _ _ _ (by simp), Below.heap_setCell _ _ _ _ (by simp), Below.heap_setCell _ _ _ _ (by simp), Below.heap_setCell _ _ _ _ (by simp), Below.heap_setCell _ _ _ _ (by simp)]
        exact HG2.out
      exact blk_set (blk_set hz 0 _) 1 _
    have hbw : Below w.heap.size w w5 := HBS.out.trans (ho5.below HBS.out.size (fun b hb e => by omega))
    have HH1 := Lib.hid hh1
    have HH2 := Lib.hid hh2
    have HBW := Lib.hid hbw
    have HW5 := Lib.hid hw5
    clear hw5 ho5 hh1 hh2 hbw
    cases cl
    · go_wp2_with fail
      rw [← HW5.out]
      try simp only [Exit.inBlock, Exit.then]
      refine bodyPost_ret (results_cell2 rfl _ _ (w.heap.size + 1) (w.heap.size + 1 + 1) 149 151 _ _ (0, 0) (0, 0) rfl HH1.out row149 size149 rfl HH2.out row151 size151) rfl ?_
      exact ⟨none, 0, none, 0, 0, rfl, RowO.nil _ _ _ _, RowO.nil _ _ _ _, HBW.out⟩
    · cases nb
      · cases hsd
      · go_wp2_with fail
        rw [← HW5.out]
        try simp only [Exit.inBlock, Exit.then]
        refine bodyPost_ret (results_cell2 rfl _ _ (w.heap.size + 1) (w.heap.size + 1 + 1) 149 151 _ _ (0, 0) (0, 0) rfl HH1.out row149 size149 rfl HH2.out row151 size151) rfl ?_
        exact ⟨none, 0, none, 0, 0, rfl, RowO.nil _ _ _ _, RowO.nil _ _ _ _, HBW.out⟩
  · have hi : ofI L t = ⟨L.name, L.epoch, L.next, t, L.live.map fun x => (x.msg.uid, x.at_)⟩ := by unfold ofI; rw [HSO.out, hsd]; rfl
    have hf : ofF L = ⟨L.epoch, L.live.map fun x => (x.msg.uid, x.msg.flags)⟩ := by unfold ofF; rw [HSO.out, hsd]; rfl
    unfold OfE
    rw [hi, hf]
    have hcl1 : cl = true := by revert hsd; cases cl <;> simp
    have hnb1 : nb = false := by revert hsd; cases cl <;> cases nb <;> simp
    subst hcl1 hnb1
    obtain ⟨wb, hwb⟩ : ∃ wb, wb = (ws.alloc (.cells #[.string L.name, .int .u32 (L.epoch : Int), .int .u32 (L.next : Int), .int .i64 (t : Int), .slice none 0 0] 149)).alloc (.cells #[.int .u32 (L.epoch : Int), .slice none 0 0] 151) := ⟨_, rfl⟩
    have hbb : Below ws.heap.size ws wb := by rw [hwb]; exact ((Below.refl _ _).alloc (Nat.le_refl _) _).alloc (by simp) _
    have hM0 : OfM wb ws.heap.size (ws.heap.size + 1) ⟨L.name, L.epoch, L.next, t, []⟩ ⟨L.epoch, []⟩ none 0 none 0 0 [] [] := by
      refine ⟨?_, ?_, RowO.nil _ _ _ _, RowO.nil _ _ _ _, by omega⟩
      · rw [hwb, Below.heap_alloc _ _ _ (by simp)]
        exact heap_alloc_new ws _
      · rw [hwb]
        have := heap_alloc_new (ws.alloc (.cells #[.string L.name, .int .u32 (L.epoch : Int), .int .u32 (L.next : Int), .int .i64 (t : Int), .slice none 0 0] 149)) (.cells #[.int .u32 (L.epoch : Int), .slice none 0 0] 151)
        rwa [World.size_alloc] at this
    have hlw : w.heap.size < ws.heap.size := by have := HSS.out; omega
    have hlw' : ¬ w.heap.size = ws.heap.size := by omega
    have HM0 := Lib.hid hM0
    have HBB := Lib.hid hbb
    have HWB := Lib.hid hwb
    clear hM0 hbb hwb
    go_enter Tryz.func84, Tryz.ntmps84
    go_upto_region 1 with fail
    rw [show World.alloc _ _ = ws from HWS.out.symm]
    go_wp2_with fail
    rw [← HWB.out]
    clear c0 c1 c2 c3 c4 c5
    go_loopw [33] (fun v33 wr => ∃ (i : Nat) (A1 : Option Addr) (c1 : Nat) (A2 : Option Addr) (c2 : Nat), i ≤ n ∧ v33 = .int .i64 (i : Int) ∧ OfM wr ws.heap.size (ws.heap.size + 1) ⟨L.name, L.epoch, L.next, t, []⟩ ⟨L.epoch, []⟩ A1 c1 A2 c2 i ((L.live.take i).map fun x => (x.msg.uid, x.at_)) ((L.live.take i).map fun x => (x.msg.uid, x.msg.flags)) ∧ Below ws.heap.size wb wr) (fun v33 _ => n - (intOf v33).toNat)
    case atStart => exact ⟨0, none, 0, none, 0, Nat.zero_le _, rfl, HM0.out, Below.refl _ _⟩
    case round =>
      obtain ⟨i, A1, c1, A2, c2, hi, rfl, hm, hb⟩ := hrel
      have HM := Lib.hid hm
      have HB := Lib.hid hb
      have HBW : Hid (Below w.heap.size w wr) := (HBS.out.trans (HBB.out.mono HBS.out.size)).trans (hb.mono HBS.out.size)
      clear hm hb
      by_cases hlt : i < n
      · obtain ⟨gA, v, rfl, hv, hvl, hc⟩ := HR.out.at_ hlt
        obtain ⟨x, hxi, B, m, d, rfl, -, -⟩ := HX.out.left hv
        obtain ⟨d224, hu, hd⟩ := rowT row224
        have HU := Lib.hid hu
        have HD := Lib.hid hd
        unfold liveCells at hc
        have hcw : wr.rangeAt gA (i * 6) [.int .u32 (x.msg.uid : Int), .int .i64 x.msg.date, .int .i64 x.msg.flags, .slice B m d, .int .u32 (x.epoch : Int), .int .i64 (x.at_ : Int)] := fun j u hu => cell_later HBW.out (hc j u hu)
        have HC := Lib.hid hcw
        have HXI := Lib.hid hxi
        clear hv hvl hc hxi hu hd hcw
        obtain ⟨wa, hwa⟩ : ∃ wa, wa = wr.alloc (.cells #[.int .u32 (x.msg.uid : Int), .int .i64 x.msg.date, .int .i64 x.msg.flags, .slice B m d, .int .u32 (x.epoch : Int), .int .i64 (x.at_ : Int)] 224) := ⟨_, rfl⟩
        have hba : Below wr.heap.size wr wa := by rw [hwa]; exact (Below.refl _ _).alloc (Nat.le_refl _) _
        have hga : wa.heap[wr.heap.size]? = some (.cells #[.int .u32 (x.msg.uid : Int), .int .i64 x.msg.date, .int .i64 x.msg.flags, .slice B m d, .int .u32 (x.epoch : Int), .int .i64 (x.at_ : Int)] 224 (0, 0)) := by rw [hwa]; exact heap_alloc_new wr _
        have HMA := Lib.hid (HM.out.below hba)
        have HBA := Lib.hid hba
        have HGA := Lib.hid hga
        have HWA := Lib.hid hwa
        clear hba hga hwa
        have a0 : wa.cell? ⟨wr.heap.size, 0, none⟩ = some (.int .u32 (x.msg.uid : Int)) := cell_of_row wa _ 0 _ _ _ HGA.out
        have a2 : wa.cell? ⟨wr.heap.size, 2, none⟩ = some (.int .i64 x.msg.flags) := cell_of_row wa _ 2 _ _ _ HGA.out
        have a5 : wa.cell? ⟨wr.heap.size, 5, none⟩ = some (.int .i64 (x.at_ : Int)) := cell_of_row wa _ 5 _ _ _ HGA.out
        have k4 : wa.cell? ⟨ws.heap.size, 4, none⟩ = some (.slice A1 i c1) := cell_of_row wa _ 4 _ _ _ HMA.out.b1
        go_upto_region 8 with (refine wpList_load_mid rfl 224 (.tmp 35) rfl gA (i * 6) rfl _ d224 HC.out HU.out HD.out size224 ?_)
        rw [← HWA.out]
        have hq1 : ws.heap.size < wa.heap.size := (Array.getElem?_eq_some_iff.1 HMA.out.b1).1
        have hq2 : ws.heap.size + 1 < wa.heap.size := (Array.getElem?_eq_some_iff.1 HMA.out.b2).1
        have hq3 : wr.heap.size < wa.heap.size := (Array.getElem?_eq_some_iff.1 HGA.out).1
        go_upto_region 9 with (at_builtin; refine wp_append_row rfl (.tmp 38) (.tmp 45) 147 226 2 _ 16 und147 inf226 rfl (by decide) (by decide) rfl rfl rfl (HMA.out.r1.below ((Below.refl _ _).alloc (Nat.le_refl _) _)) (range_new wa (entV (x.msg.uid, x.at_)) 226) rfl (by simp [entV, Value.oneCell']) (by omega) (by simp; omega) ?_; intro A5 c5 w5 hro5 ho5 hbk5; have HRO5 := Lib.hid hro5; have HO5 := Lib.hid ho5; have hb4 := (Below.refl wa.heap.size wa).alloc (Nat.le_refl _) (.cells #[.int .u32 (x.msg.uid : Int), .int .i64 (x.at_ : Int)] 226); have HB4 := Lib.hid hb4; have h15 := ho5.heap ((hb4.block _ hq1).trans HMA.out.b1) (fun e => by have := (HMA.out.r1.lt _ e).1; omega); have H15 := Lib.hid h15; have m3 : w5.cell? ⟨ws.heap.size, 4, none⟩ = some (.slice A1 i c1) := cell_of_row w5 _ 4 _ _ _ H15.out; have mf : ∀ j, w5.frozen? ⟨ws.heap.size, j, none⟩ = false := (fun j => by simp [World.frozen?, H15.out]); clear hro5 ho5 hbk5 h15 hb4)
        obtain ⟨q1, q2, q3, q4, q5⟩ := of_ent (e := (x.msg.uid, x.at_)) HMA.out HB4.out HRO5.out HO5.out
        generalize w5.setCell ⟨ws.heap.size, 4, none⟩ (.slice A5 (i + 1) c5) = w6 at q1 q2 q3 q4 q5 ⊢
        have hnv : ¬ (wr.heap.size = ws.heap.size ∨ blk A1 = some wr.heap.size) := fun e => by
          rcases e with e | e
          · have := (Array.getElem?_eq_some_iff.1 HM.out.b1).1; omega
          · have := (HM.out.r1.lt _ e).2; omega
        have a0 := q5.cell a0 hnv
        have a2 := q5.cell a2 hnv
        have k1 : w6.cell? ⟨ws.heap.size + 1, 1, none⟩ = some (.slice A2 i c2) := cell_of_row w6 _ 1 _ _ _ q2
        have HQ1 := Lib.hid q1
        have HQ2 := Lib.hid q2
        have HQ3 := Lib.hid q3
        have HQ4 := Lib.hid q4
        have HQ5 := Lib.hid q5
        have hq1' : ws.heap.size < w6.heap.size := (Array.getElem?_eq_some_iff.1 q1).1
        have hq2' : ws.heap.size + 1 < w6.heap.size := (Array.getElem?_eq_some_iff.1 q2).1
        have hq3' : wr.heap.size < w6.heap.size := World.block_lt_of_cell? _ _ a0
        clear q1 q2 q3 q4 q5 a5 k4 m3 mf hq1 hq2 hq3
        go_wp2_with (at_builtin; refine wp_append_row rfl (.tmp 49) (.tmp 57) 89 160 2 _ 16 und89 inf160 rfl (by decide) (by decide) rfl rfl rfl (HQ4.out.below ((Below.refl _ _).alloc (Nat.le_refl _) _)) (range_new w6 (markV (x.msg.uid, x.msg.flags)) 160) rfl (by simp [markV, Value.oneCell']) (by omega) (by simp; omega) ?_; intro A7 c7 w7 hro7 ho7 hbk7; have HRO7 := Lib.hid hro7; have HO7 := Lib.hid ho7; have hb6 := (Below.refl w6.heap.size w6).alloc (Nat.le_refl _) (.cells #[.int .u32 (x.msg.uid : Int), .int .i64 x.msg.flags] 160); have HB6 := Lib.hid hb6; have h17 := ho7.heap ((hb6.block _ hq2').trans HQ2.out) (fun e => by have := (HQ4.out.lt _ e).1; omega); have H17 := Lib.hid h17; have m3 : w7.cell? ⟨ws.heap.size + 1, 1, none⟩ = some (.slice A2 i c2) := cell_of_row w7 _ 1 _ _ _ H17.out; have mf : ∀ j, w7.frozen? ⟨ws.heap.size + 1, j, none⟩ = false := (fun j => by simp [World.frozen?, H17.out]); clear hro7 ho7 hbk7 h17 hb6)
        obtain ⟨p1, p2⟩ := of_mark (e := (x.msg.uid, x.msg.flags)) HMA.out.lt HQ1.out HQ2.out HQ3.out HQ4.out HB6.out HRO7.out HO7.out rfl
        refine ⟨⟨i + 1, A5, c5, A7, c7, hlt, by first | rfl | (congr 1), ?_, ?_⟩, by simp [intOf]; omega⟩
        · obtain ⟨hi', hx'⟩ := List.getElem?_eq_some_iff.1 HXI.out
          rw [List.take_succ_eq_append_getElem hi', List.map_append, List.map_append, hx']
          exact p1
        · have hz := (Array.getElem?_eq_some_iff.1 HM.out.b1).1
          have hr1 := HMA.out.r1.lt
          have hr2 := HQ4.out.lt
          exact (HB.out.trans ((HBA.out.mono (by omega)).trans (HQ5.out.below (by have := HBA.out.size; omega) (fun b hb e => by
            rcases e with e | e
            · omega
            · have := (hr1 b e).1; omega)))).trans (p2.below (by omega) (fun b hb e => by
            rcases e with e | e
            · omega
            · have := (hr2 b e).1; omega))
      · obtain rfl : i = n := by omega
        have hm := HM.out
        rw [List.take_of_length_le (by rw [HLX.out]; exact Nat.le_refl _)] at hm
        have HM' := Lib.hid hm
        clear hm HM
        have r1 := (HB.out.block (w.heap.size + 1) (by have := HSS.out; omega)).trans ((HBB.out.block (w.heap.size + 1) (by have := HSS.out; omega)).trans HG1.out)
        have r2 := (HB.out.block (w.heap.size + 1 + 1) (by have := HSS.out; omega)).trans ((HBB.out.block (w.heap.size + 1 + 1) (by have := HSS.out; omega)).trans HG2.out)
        have HR1 := Lib.hid r1
        have HR2 := Lib.hid r2
        clear r1 r2
        have x0 : wr.cell? ⟨ws.heap.size, 0, none⟩ = some (.string L.name) := cell_of_row wr _ 0 _ _ _ HM'.out.b1
        have x1 : wr.cell? ⟨ws.heap.size, 1, none⟩ = some (.int .u32 (L.epoch : Int)) := cell_of_row wr _ 1 _ _ _ HM'.out.b1
        have x2 : wr.cell? ⟨ws.heap.size, 2, none⟩ = some (.int .u32 (L.next : Int)) := cell_of_row wr _ 2 _ _ _ HM'.out.b1
        have x3 : wr.cell? ⟨ws.heap.size, 3, none⟩ = some (.int .i64 (t : Int)) := cell_of_row wr _ 3 _ _ _ HM'.out.b1
        have x4 : wr.cell? ⟨ws.heap.size, 4, none⟩ = some (.slice A1 i c1) := cell_of_row wr _ 4 _ _ _ HM'.out.b1
        have y0 : wr.cell? ⟨ws.heap.size + 1, 0, none⟩ = some (.int .u32 (L.epoch : Int)) := cell_of_row wr _ 0 _ _ _ HM'.out.b2
        have y1 : wr.cell? ⟨ws.heap.size + 1, 1, none⟩ = some (.slice A2 i c2) := cell_of_row wr _ 1 _ _ _ HM'.out.b2
        have s0 := cell_of_row wr _ 0 _ _ _ HR1.out
        have s1 := cell_of_row wr _ 1 _ _ _ HR1.out
        have s2 := cell_of_row wr _ 2 _ _ _ HR1.out
        have s3 := cell_of_row wr _ 3 _ _ _ HR1.out
        have s4 := cell_of_row wr _ 4 _ _ _ HR1.out
        have r0 := cell_of_row wr _ 0 _ _ _ HR2.out
        have r1 := cell_of_row wr _ 1 _ _ _ HR2.out
        have sf : ∀ j, wr.frozen? ⟨w.heap.size + 1, j, none⟩ = false := fun j => by simp [World.frozen?, HR1.out]
        have rf : ∀ j, wr.frozen? ⟨w.heap.size + 1 + 1, j, none⟩ = false := fun j => by simp [World.frozen?, HR2.out]
        go_wp2_with fail
        go_region
        go_wp2_with fail
        obtain ⟨w5, hw5⟩ : ∃ w5, w5 = ((((((wr.setCell ⟨w.heap.size + 1, 0, none⟩ (.string L.name)).setCell ⟨w.heap.size + 1, 1, none⟩ (.int .u32 (L.epoch : Int))).setCell ⟨w.heap.size + 1, 2, none⟩ (.int .u32 (L.next : Int))).setCell ⟨w.heap.size + 1, 3, none⟩ (.int .i64 (t : Int))).setCell ⟨w.heap.size + 1, 4, none⟩ (.slice A1 i c1)).setCell ⟨w.heap.size + 1 + 1, 0, none⟩ (.int .u32 (L.epoch : Int))).setCell ⟨w.heap.size + 1 + 1, 1, none⟩ (.slice A2 i c2) := ⟨_, rfl⟩
        have ho5 : Only (fun b => b = w.heap.size + 1 ∨ b = w.heap.size + 1 + 1) wr w5 := by
          rw [hw5]
          exact (((((((Only.refl (fun b => b = w.heap.size + 1 ∨ b = w.heap.size + 1 + 1) wr).setCell (p := ⟨w.heap.size + 1, 0, none⟩) (.inl (.inl rfl)) _).setCell (p := ⟨w.heap.size + 1, 1, none⟩) (.inl (.inl rfl)) _).setCell (p := ⟨w.heap.size + 1, 2, none⟩) (.inl (.inl rfl)) _).setCell (p := ⟨w.heap.size + 1, 3, none⟩) (.inl (.inl rfl)) _).setCell (p := ⟨w.heap.size + 1, 4, none⟩) (.inl (.inl rfl)) _).setCell (p := ⟨w.heap.size + 1 + 1, 0, none⟩) (.inl (.inr rfl)) _).setCell (p := ⟨w.heap.size + 1 + 1, 1, none⟩) (.inl (.inr rfl)) _
        have hw5b : World.drew _ = w5.drew := congrArg World.drew hw5.symm
        have hsz : w.heap.size ≤ wr.heap.size := by have := (Array.getElem?_eq_some_iff.1 HM'.out.b1).1; omega
        have hbw : Below w.heap.size w w5.drew := ((HBS.out.trans (HBB.out.mono HBS.out.size)).trans ((HB.out.mono HBS.out.size).trans (ho5.below hsz (fun b hb e => by omega)))).drew
        have hh1 : w5.heap[w.heap.size + 1]? = some (.cells (idxCells ⟨L.name, L.epoch, L.next, t, L.live.map fun x => (x.msg.uid, x.at_)⟩ (.slice A1 i c1)).toArray 149 (0, 0)) := by
          rw [hw5, Below.heap_setCell _ _ _ _ (by simp), Below.heap_setCell _ _ _ _ (by simp)]
          exact blk_set (blk_set (blk_set (blk_set (blk_set HR1.out 0 _) 1 _) 2 _) 3 _) 4 _
        have hh2 : w5.heap[w.heap.size + 1 + 1]? = some (.cells (flgCells ⟨L.epoch, L.live.map fun x => (x.msg.uid, x.msg.flags)⟩ (.slice A2 i c2)).toArray 151 (0, 0)) := by
          rw [hw5]
          have hz : (((((wr.setCell ⟨w.heap.size + 1, 0, none⟩ (.string L.name)).setCell ⟨w.heap.size + 1, 1, none⟩ (.int .u32 (L.epoch : Int))).setCell ⟨w.heap.size + 1, 2, none⟩ (.int .u32 (L.next : Int))).setCell ⟨w.heap.size + 1, 3, none⟩ (.int .i64 (t : Int))).setCell ⟨w.heap.size + 1, 4, none⟩ (.slice A1 i c1)).heap[w.heap.size + 1 + 1]? = some (.cells #[.int .u32 0, .slice none 0 0] 151 (0, 0)) := by
            rw [Below.heap_setCell _ _ _ _ (by simp), Below.heap_setCell _ _ _ _ (by simp), Below.heap_setCell _ _ _ _ (by simp), Below.heap_setCell _ _ _ _ (by simp), Below.heap_setCell _ _ _ _ (by simp)]
            exact HR2.out
          exact blk_set (blk_set hz 0 _) 1 _
        have hr1 : RowO w5.drew w.heap.size 226 2 A1 i c1 ((L.live.map fun x => (x.msg.uid, x.at_)).map entV) :=
          (HM'.out.r1.only ho5.drew (fun q hq e => by have := (HM'.out.r1.lt q hq).1; omega)).more (fun q hq => by have := (HM'.out.r1.lt q hq).1; omega)
        have hr2 : RowO w5.drew w.heap.size 160 2 A2 i c2 ((L.live.map fun x => (x.msg.uid, x.msg.flags)).map markV) :=
          (HM'.out.r2.only ho5.drew (fun q hq e => by have := (HM'.out.r2.lt q hq).1; omega)).more (fun q hq => by have := (HM'.out.r2.lt q hq).1; omega)
        have HH1 : Hid (w5.drew.heap[w.heap.size + 1]? = _) := hh1
        have HH2 : Hid (w5.drew.heap[w.heap.size + 1 + 1]? = _) := hh2
        have HF1 := Lib.hid hr1
        have HF2 := Lib.hid hr2
        have HBW := Lib.hid hbw
        have HW5 := Lib.hid hw5b
        clear hw5 ho5 hsz hbw hh1 hh2 hr1 hr2 hw5b
        rw [HW5.out]
        try simp only [Exit.inBlock, Exit.then]
        refine bodyPost_ret (results_cell2 rfl _ _ (w.heap.size + 1) (w.heap.size + 1 + 1) 149 151 _ _ (0, 0) (0, 0) rfl HH1.out row149 size149 rfl HH2.out row151 size151) rfl ?_
        exact ⟨A1, c1, A2, c2, i, rfl, HF1.out, HF2.out, HBW.out⟩
end Go.Proofs.YtlhaempecidohaaGreatDoor
namespace Go.Proofs.YtlhaempecidohaaGreatDoor
open Go.RowKit
def marksOf (ms : List Msg) : List (Nat × Int) := ms.map fun m => (m.uid, m.flags)
/-- what marks hands back -/
def MarksE (w : World) (n : Nat) (ms : List Msg) (e : Ending) (w' : World) : Prop :=
  ∃ A c, e = .returned (.slice A n c) ∧ RowO w' w.heap.size 160 2 A n c ((marksOf ms).map markV) ∧ Below w.heap.size w w'
set_option maxRecDepth 8000 in
set_option maxHeartbeats 2000000 in
theorem marks_any (nm : ByteArray) (ep nx : Nat) (A : Option Addr) (n c : Nat) (vs : List (List Value)) (ms : List Msg) (w : World) (hr : RowR w A n 4 vs) (hx : All2 MsgV vs ms) (hn : n ≤ 10000000) :
    Calls Tryz.prog 129 #[.agg (boxCells nm ep nx (.slice A n c)).toArray] w (MarksE w n ms) := by
  unfold boxCells
  obtain ⟨ws, hws⟩ : ∃ ws, ws = w.alloc (.cells #[.string nm, .int .u32 (ep : Int), .int .u32 (nx : Int), .slice A n c] 49) := ⟨_, rfl⟩
  have hbs : Below w.heap.size w ws := by rw [hws]; exact (Below.refl _ _).alloc (Nat.le_refl _) _
  have c3 : ws.cell? ⟨w.heap.size, 3, none⟩ = some (.slice A n c) := by rw [hws]; exact cell_new w _ 49 rfl
  have hnl : ms.length = n := by rw [← hx.length]; exact hr.len
  have HR := Lib.hid (hr.below hbs)
  have HX := Lib.hid hx
  have HBS := Lib.hid hbs
  have HWS := Lib.hid hws
  have HNL : Hid (ms.length = n) := hnl
  clear hr hx hbs hws hnl
  go_enter Tryz.func129, Tryz.ntmps129
  go_upto_region 2 with fail
  rw [← HWS.out]
  go_wp2_with fail
  clear c3
  go_loopw [3, 9] (fun v3 v9 wr => ∃ (i : Nat) (G : Option Addr) (kc : Nat), i ≤ n ∧ v3 = .slice G i kc ∧ v9 = .int .i64 (i : Int) ∧ RowO wr ws.heap.size 160 2 G i kc ((marksOf (ms.take i)).map markV) ∧ Below ws.heap.size ws wr) (fun _ v9 _ => n - (intOf v9).toNat)
  case atStart => exact ⟨0, none, 0, Nat.zero_le _, rfl, rfl, RowO.nil _ _ _ _, Below.refl _ _⟩
  case round =>
    obtain ⟨i, G, kc, hi, rfl, rfl, hrow, hb⟩ := hrel
    have HROW := Lib.hid hrow
    have HB := Lib.hid hb
    clear hrow hb
    by_cases hlt : i < n
    · obtain ⟨g', v, rfl, hv, -, hc⟩ := (HR.out.below HB.out).at_ hlt
      obtain ⟨x, hxi, B, m, d, rfl, -⟩ := HX.out.left hv
      obtain ⟨d37, hu, hd⟩ := rowT row37
      have HU := Lib.hid hu
      have HD := Lib.hid hd
      unfold msgCells at hc
      have HC := Lib.hid hc
      have htk : marksOf (ms.take (i + 1)) = marksOf (ms.take i) ++ [(x.uid, x.flags)] := by
        obtain ⟨h1, h2⟩ := List.getElem?_eq_some_iff.1 hxi
        unfold marksOf
        rw [List.take_succ_eq_append_getElem h1, h2, List.map_append]; rfl
      have HTK := Lib.hid htk
      obtain ⟨wa, hwa⟩ : ∃ wa, wa = wr.alloc (.cells #[.int .u32 (x.uid : Int), .int .i64 x.date, .int .i64 x.flags, .slice B m d] 37) := ⟨_, rfl⟩
      have hba : Below wr.heap.size wr wa := by rw [hwa]; exact (Below.refl _ _).alloc (Nat.le_refl _) _
      have a0 : wa.cell? ⟨wr.heap.size, 0, none⟩ = some (.int .u32 (x.uid : Int)) := by rw [hwa]; exact cell_new wr _ 37 rfl
      have a2 : wa.cell? ⟨wr.heap.size, 2, none⟩ = some (.int .i64 x.flags) := by rw [hwa]; exact cell_new wr _ 37 rfl
      have hz : ws.heap.size ≤ wa.heap.size := Nat.le_trans HB.out.size hba.size
      have HRWA := Lib.hid (HROW.out.below hba)
      have HBA := Lib.hid (HB.out.trans (hba.mono HB.out.size))
      have HWA := Lib.hid hwa
      clear hv hc hxi hu hd htk hba hwa
      go_upto_region 5 with (refine wpList_load_mid rfl 37 (.tmp 11) rfl g' (i * 4) rfl _ d37 HC.out HU.out HD.out size37 ?_)
      rw [← HWA.out]
      go_wp2_with (at_builtin; refine wp_append_row rfl (.tmp 13) (.tmp 19) 89 160 2 _ 16 und89 inf160 rfl (by decide) (by decide) rfl rfl rfl (HRWA.out.below ((Below.refl _ _).alloc (Nat.le_refl _) _)) (range_new wa (markV (x.uid, x.flags)) 160) rfl (by simp [markV, Value.oneCell']) (by omega) (by simp; omega) ?_; intro G5 c5 w5 hro5 ho5 hbk5; have HRO5 := Lib.hid hro5; have HO5 := Lib.hid ho5; have hb5 := (Below.refl wa.heap.size wa).alloc (Nat.le_refl _) (.cells (markV (x.uid, x.flags)).toArray 160); have HB5 := Lib.hid hb5; clear hro5 ho5 hbk5 hb5)
      have hrl := HRWA.out.lt
      refine ⟨⟨i + 1, G5, c5, hlt, rfl, by first | rfl | (congr 1), ?_, ?_⟩, by simp [intOf]; omega⟩
      · rw [HTK.out, List.map_append]
        exact HRO5.out
      · exact HBA.out.trans ((HB5.out.mono hz).trans (HO5.out.below (Nat.le_trans hz HB5.out.size) (fun b hb e => by have := (hrl b e).1; omega)))
    · obtain rfl : i = n := by omega
      have hrow := HROW.out
      rw [List.take_of_length_le (by rw [HNL.out]; exact Nat.le_refl _)] at hrow
      have HRW := Lib.hid (hrow.more (B := w.heap.size) (fun q hq => Nat.le_trans HBS.out.size (hrow.lt q hq).1))
      have HBW := Lib.hid (HBS.out.trans (HB.out.mono HBS.out.size))
      clear hrow
      go_wp2_with fail
      go_ret
      exact ⟨G, kc, rfl, HRW.out, HBW.out⟩
end Go.Proofs.YtlhaempecidohaaGreatDoor
namespace Go.Proofs.YtlhaempecidohaaGreatDoor
open Go.RowKit
theorem OutW.later {w0 w w' : World} {g : Nat} {l : List Nat} (h : OutW w0 w g l) (hb : Below w.heap.size w w') : OutW w0 w' g l := by
  obtain ⟨A, n, c, hO⟩ := h.out
  exact ⟨⟨A, n, c, hO.below hb⟩, h.below.trans (hb.mono h.below.size), h.ge⟩
/-- N, and what younger blocks hold stays -/
theorem OutW.nk {w0 wr wa : World} {g : Nat} {l : List Nat} (h : OutW w0 wr g l) (hb : Below wr.heap.size wr wa) (x s : Nat) (hl : l.length ≤ 10000000) (hs1 : 1 ≤ s) (hs2 : s ≤ 7) (hx : x < 256 ^ s) :
    Calls Tryz.prog 141 #[.pointer (some ⟨g, 0, none⟩), .int .i64 (x : Int), .int .i64 (s : Int)] wa fun e w' => e = .returned (.tuple #[]) ∧ OutW w0 w' g (l ++ beb x s) ∧
      ∀ b o v, wr.heap.size ≤ b → wa.cell? ⟨b, o, none⟩ = some v → w'.cell? ⟨b, o, none⟩ = some v := by
  obtain ⟨A, n, c, hO⟩ := h.out
  have hOa := hO.below hb
  refine (out_n_loop g (g + 1) A n c l false x s wa hOa (h.later hb).size hs1 hs2 hx (by have := hO.2.1; omega)).mono fun e w' ho => ?_
  obtain ⟨rfl, hW⟩ := (h.later hb).step hOa ho
  obtain ⟨A', n', c', -, -, hon, -⟩ := ho
  refine ⟨rfl, hW, fun b o v hle hv => hon.cell hv (fun e => ?_)⟩
  have hgl := (Array.getElem?_eq_some_iff.1 hO.1).1
  rcases e with e | e
  · simp only at e; omega
  · have := (hO.2.lt b e).2
    omega
set_option maxHeartbeats 1000000 in
theorem iput_any (k : Nat) (h1 : 1 ≤ k) (h2 : k ≤ 3) (w0 w : World) (g : Nat) (l : List Nat) (h : OutW w0 w g l) (hl : l.length ≤ 60000) :
    Calls Tryz.prog 142 #[.int .i64 (k : Int), .pointer (some ⟨g, 0, none⟩)] w (Ended w0 (page k l) 0) := by
  have hd := h.done (by omega)
  have HD := Lib.hid hd
  clear hd h
  go_enter Tryz.func142, Tryz.ntmps142
  go_wp2_with fail
  refine HD.out.mono ?_
  rintro e w1 ⟨A, n, c, rfl, hown, hb⟩
  have hp := put_ok k A n c l w1 hown.read h1 h2 (by rw [← hown.read.1]; exact hl)
  have HP := Lib.hid hp
  have HB := Lib.hid hb
  clear hp hown hb
  go_wp2_with fail
  refine HP.out.mono ?_
  rintro e w2 h
  have h := h.more HB.out
  obtain ⟨A', n', c', rfl, hown, hb⟩ := h
  have HO := Lib.hid hown
  have HB2 := Lib.hid hb
  clear hown hb
  go_wp2_with fail
  go_ret2
  exact ⟨A', n', c', rfl, HO.out, HB2.out⟩
theorem flg_all {x : FlgS} (h : rightFlg x = true) : (∀ m ∈ x.L, 0 ≤ m.2 ∧ m.2 ≤ 31) ∧ x.L.length ≤ 500 := by
  unfold rightFlg at h
  simp only [Bool.and_eq_true, decide_eq_true_eq] at h
  exact ⟨flgFrom_all h.1.1, h.2⟩
/-- what PutFlags hands back -/
def PutF (w : World) (x : FlgS) (e : Ending) (w' : World) : Prop := if rightFlg x = true then Ended w (flgB x) 0 e w' else Ended w [] 1 e w'
theorem markB_len (m : Nat × Int) : (markB m).length = 5 := by simp [markB, beb_length]
set_option maxRecDepth 8000 in
set_option maxHeartbeats 3000000 in
theorem putFlg_any (x : FlgS) (A : Option Addr) (n c : Nat) (w : World) (hr : RowR w A n 2 (x.L.map markV)) (hn : n ≤ 10000000) (hw : x.wf) :
    Calls Tryz.prog 143 #[.agg (flgCells x (.slice A n c)).toArray] w (PutF w x) := by
  have hlen : x.L.length = n := by have := hr.len; rwa [List.length_map] at this
  obtain ⟨ws, hws⟩ : ∃ ws, ws = w.alloc (.cells (flgCells x (.slice A n c)).toArray 151) := ⟨_, rfl⟩
  have hbs : Below w.heap.size w ws := by rw [hws]; exact (Below.refl _ _).alloc (Nat.le_refl _) _
  have hg : ws.heap[w.heap.size]? = some (.cells (flgCells x (.slice A n c)).toArray 151 (0, 0)) := by rw [hws]; exact heap_alloc_new w _
  have hF := rightFlg_any x A n c ws (hr.below hbs) hn
  have HR := Lib.hid (hr.below hbs)
  have HBS := Lib.hid hbs
  have HLEN : Hid (x.L.length = n) := hlen
  unfold flgCells at hws hg hF ⊢
  have c0 : ws.cell? ⟨w.heap.size, 0, none⟩ = some (.int .u32 (x.epoch : Int)) := cell_of_row ws _ 0 _ _ _ hg
  have c1 : ws.cell? ⟨w.heap.size, 1, none⟩ = some (.slice A n c) := cell_of_row ws _ 1 _ _ _ hg
  have HWS := Lib.hid hws
  have HC0 := Lib.hid c0
  have HC1 := Lib.hid c1
  have HF := Lib.hid hF
  have HW := Lib.hid hw
  have hep : x.epoch < 256 ^ 4 := hw.epoch
  clear hr hbs hlen hws hg hF hw
  unfold PutF
  cases hrt : rightFlg x
  · rw [hrt] at HF
    go_enter Tryz.func143, Tryz.ntmps143
    go_upto_region 1 with fail
    rw [show w.alloc _ = ws from HWS.out.symm]
    go_wp2_with fail
    refine HF.out.mono ?_
    rintro e w1 ⟨rfl, hb⟩
    have HB1 := Lib.hid (HBS.out.trans (hb.mono HBS.out.size))
    clear hb
    go_wp2_with fail
    go_ret2
    exact ⟨none, 0, 0, rfl, Own.nil _ _, HB1.out⟩
  · rw [hrt] at HF
    obtain ⟨hfl, h500⟩ := flg_all hrt
    rw [HLEN.out] at h500
    have HFL := Lib.hid hfl
    have HRT := Lib.hid hrt
    have l4 : ∀ x, (beb x 4).length = 4 := fun x => beb_length x 4
    have l2 : ∀ x, (beb x 2).length = 2 := fun x => beb_length x 2
    clear hfl hrt
    go_enter Tryz.func143, Tryz.ntmps143
    go_upto_region 1 with fail
    rw [show w.alloc _ = ws from HWS.out.symm]
    go_wp2_with fail
    refine HF.out.mono ?_
    rintro e w1 ⟨rfl, hb⟩
    have hO := OutW.made _ w1 hb
    have c0 := cell_later hO.below HC0.out
    have HO := Lib.hid hO
    clear hb hO
    go_wp2_with fail
    refine (HO.out.n x.epoch 4 (by simp only [List.length_nil]; omega) (by omega) (by omega) hep).mono ?_
    rintro e w2 ⟨rfl, hO⟩
    have c1 := cell_later hO.below HC1.out
    have HO2 := Lib.hid hO
    clear hO c0 HO
    go_wp2_with fail
    refine (HO2.out.n n 2 (by simp only [List.length_nil, List.length_append, l4]; omega) (by omega) (by omega) (by omega)).mono ?_
    rintro e w3 ⟨rfl, hO⟩
    have c1 := cell_later hO.below HC1.out
    have HO3 := Lib.hid hO
    clear hO HO2
    go_wp2_with fail
    go_loopw [21] (fun v21 wr => ∃ i : Nat, i ≤ n ∧ v21 = .int .i64 (i : Int) ∧ OutW ws wr w1.heap.size (beb x.epoch 4 ++ beb n 2 ++ (x.L.take i).flatMap markB)) (fun v21 _ => n - (intOf v21).toNat)
    case atStart => exact ⟨0, Nat.zero_le _, rfl, by have := HO3.out; simpa using this⟩
    case round =>
      obtain ⟨i, hi, rfl, hO⟩ := hrel
      have HO := Lib.hid hO
      clear hO c1
      by_cases hlt : i < n
      · obtain ⟨gA, e, rfl, hxe, hc⟩ := (HR.out.below HO.out.below).map hlt
        obtain ⟨d160, hu, hd⟩ := rowT row160
        have HU := Lib.hid hu
        have HD := Lib.hid hd
        unfold markV at hc
        have HC := Lib.hid hc
        obtain ⟨hil, hie⟩ := List.getElem?_eq_some_iff.1 hxe
        obtain ⟨hf0, hf1⟩ := HFL.out e (List.mem_of_getElem? hxe)
        have hue := HW.out.uids e (List.mem_of_getElem? hxe)
        have hnext : (x.L.take (i + 1)).flatMap markB = (x.L.take i).flatMap markB ++ markB e := by
          rw [List.take_succ_eq_append_getElem hil, hie, List.flatMap_append]; simp
        have hml : ((x.L.take i).flatMap markB).length ≤ 2500 := by
          rw [flat_len _ _ 5 (fun m _ => markB_len m), List.length_take]; omega
        have HNX := Lib.hid hnext
        obtain ⟨u, fl⟩ := e
        dsimp only at hf0 hf1 hue hc HC hnext HNX
        obtain ⟨f', rfl⟩ := Int.eq_ofNat_of_zero_le hf0
        clear hu hd hc hxe hil hie hnext hf0
        obtain ⟨wa, hwa⟩ : ∃ wa, wa = wr.alloc (.cells #[.int .u32 (u : Int), .int .i64 (f' : Int)] 160) := ⟨_, rfl⟩
        have hba : Below wr.heap.size wr wa := by rw [hwa]; exact (Below.refl _ _).alloc (Nat.le_refl _) _
        have a0 : wa.cell? ⟨wr.heap.size, 0, none⟩ = some (.int .u32 (u : Int)) := by rw [hwa]; exact cell_new wr _ 160 rfl
        have a1 : wa.cell? ⟨wr.heap.size, 1, none⟩ = some (.int .i64 (f' : Int)) := by rw [hwa]; exact cell_new wr _ 160 rfl
        have HA1 := Lib.hid a1
        have HBA := Lib.hid hba
        have HWA := Lib.hid hwa
        clear hba hwa
        go_wp2_with (refine wpList_load_mid rfl 160 (.tmp 23) rfl gA (i * 2) rfl _ d160 HC.out HU.out HD.out size160 ?_)
        rw [← HWA.out]
        refine (HO.out.nk HBA.out u 4 (by simp only [List.length_append, l4, l2]; omega) (by omega) (by omega) hue).mono ?_
        rintro e w4 ⟨rfl, hO, hk⟩
        have a1 := hk _ _ _ (Nat.le_refl _) HA1.out
        have HO4 := Lib.hid hO
        clear hO hk
        go_wp2_with fail
        refine (HO4.out.n f' 1 (by simp only [List.length_append, l4, l2]; omega) (by omega) (by omega) (by omega)).mono ?_
        rintro e w5 ⟨rfl, hO⟩
        have HO5 := Lib.hid hO
        clear hO
        go_wp2_with fail
        refine ⟨⟨i + 1, hlt, by first | rfl | (congr 1), ?_⟩, by simp [intOf]; omega⟩
        rw [HNX.out, ← List.append_assoc]
        have := HO5.out
        rw [List.append_assoc] at this
        exact this
      · obtain rfl : i = n := by omega
        have hO := HO.out
        rw [List.take_of_length_le (by rw [HLEN.out]; exact Nat.le_refl _)] at hO
        have hP := iput_any 2 (by omega) (by omega) ws wr w1.heap.size _ hO (by
          simp only [List.length_append, l4, l2]
          rw [flat_len _ _ 5 (fun m _ => markB_len m), HLEN.out]; omega)
        have HP := Lib.hid hP
        clear hP hO
        go_wp2_with fail
        refine HP.out.mono ?_
        rintro e w4 h
        have h := h.more HBS.out
        obtain ⟨A', n', c', rfl, hown, hb⟩ := h
        have HOW := Lib.hid hown
        have HB4 := Lib.hid hb
        clear hown hb
        go_wp2_with fail
        go_ret2
        have e : flgB x = page 2 (beb x.epoch 4 ++ beb i 2 ++ x.L.flatMap markB) := by unfold flgB flgP; rw [HLEN.out]
        show Ended w (flgB x) 0 _ _
        rw [e]
        exact ⟨A', n', c', rfl, HOW.out, HB4.out⟩
end Go.Proofs.YtlhaempecidohaaGreatDoor
namespace Go.Proofs.YtlhaempecidohaaGreatDoor
open Go.RowKit
/-- N, and what blocks of other types hold stays -/
theorem OutW.nt {w0 w : World} {g : Nat} {l : List Nat} (h : OutW w0 w g l) (x s : Nat) (hl : l.length ≤ 10000000) (hs1 : 1 ≤ s) (hs2 : s ≤ 7) (hx : x < 256 ^ s) :
    Calls Tryz.prog 141 #[.pointer (some ⟨g, 0, none⟩), .int .i64 (x : Int), .int .i64 (s : Int)] w fun e w' => e = .returned (.tuple #[]) ∧ OutW w0 w' g (l ++ beb x s) ∧
      ∀ b cs T, T ≠ 5 → b ≠ g → w.heap[b]? = some (.cells cs T (0, 0)) → w'.heap[b]? = some (.cells cs T (0, 0)) := by
  obtain ⟨A, n, c, hO⟩ := h.out
  refine (out_n_loop g (g + 1) A n c l false x s w hO h.size hs1 hs2 hx (by have := hO.2.1; omega)).mono fun e w' ho => ?_
  obtain ⟨rfl, hW⟩ := h.step hO ho
  obtain ⟨A', n', c', -, -, hon, -⟩ := ho
  refine ⟨rfl, hW, fun b cs T hT hbg hb => hon.heap hb (fun e => ?_)⟩
  rcases e with e | e
  · exact hbg e
  · obtain ⟨cs', h5⟩ := hO.2.type b e
    rw [hb] at h5
    injection h5 with h5
    injection h5 with _ h5
    exact hT h5
theorem idxFrom_all : ∀ {l : List (Nat × Nat)} {nx last : Nat}, idxFrom nx last l = true → ∀ e ∈ l, e.2 ≤ 4294967295
  | x :: l, nx, last, h, e, he => by
    simp only [idxFrom, Bool.and_eq_true, decide_eq_true_eq] at h
    rcases List.mem_cons.1 he with rfl | he
    · exact h.1.2
    · exact idxFrom_all h.2 e he
theorem idx_all {x : IdxS} (h : rightIdx x = true) : (∀ e ∈ x.L, e.2 ≤ 4294967295) ∧ x.name.size ≤ 60 ∧ x.upto ≤ 4294967295 ∧ x.L.length ≤ 500 := by
  unfold rightIdx at h
  simp only [Bool.and_eq_true, decide_eq_true_eq] at h
  exact ⟨idxFrom_all h.1.1.1.1.1, named_size h.1.1.1.1.2, h.1.2, h.2⟩
/-- what PutIndex hands back -/
def PutI (w : World) (x : IdxS) (e : Ending) (w' : World) : Prop := if rightIdx x = true then Ended w (idxB x) 0 e w' else Ended w [] 1 e w'
def entB (e : Nat × Nat) : List Nat := beb e.1 4 ++ beb e.2 4
theorem entB_len (e : Nat × Nat) : (entB e).length = 8 := by simp [entB, beb_length]
set_option maxRecDepth 8000 in
set_option maxHeartbeats 3000000 in
theorem putIdx_any (x : IdxS) (A : Option Addr) (n c : Nat) (w : World) (hr : RowR w A n 2 (x.L.map entV)) (hn : n ≤ 10000000) (hs : x.name.size ≤ 1000000) (hw : x.wf) (hE : Env w) :
    Calls Tryz.prog 85 #[.agg (idxCells x (.slice A n c)).toArray] w (PutI w x) := by
  have hlen : x.L.length = n := by have := hr.len; rwa [List.length_map] at this
  obtain ⟨ws, hws⟩ : ∃ ws, ws = w.alloc (.cells (idxCells x (.slice A n c)).toArray 149) := ⟨_, rfl⟩
  have hbs : Below w.heap.size w ws := by rw [hws]; exact (Below.refl _ _).alloc (Nat.le_refl _) _
  have hg : ws.heap[w.heap.size]? = some (.cells (idxCells x (.slice A n c)).toArray 149 (0, 0)) := by rw [hws]; exact heap_alloc_new w _
  have hF := rightIdx_any x A n c ws (hr.below hbs) hn hs (hE.below hbs)
  have HR := Lib.hid (hr.below hbs)
  have HBS := Lib.hid hbs
  have HLEN : Hid (x.L.length = n) := hlen
  unfold idxCells at hws hg hF ⊢
  have c0 : ws.cell? ⟨w.heap.size, 0, none⟩ = some (.string x.name) := cell_of_row ws _ 0 _ _ _ hg
  have c1 : ws.cell? ⟨w.heap.size, 1, none⟩ = some (.int .u32 (x.epoch : Int)) := cell_of_row ws _ 1 _ _ _ hg
  have c2 : ws.cell? ⟨w.heap.size, 2, none⟩ = some (.int .u32 (x.next : Int)) := cell_of_row ws _ 2 _ _ _ hg
  have c3 : ws.cell? ⟨w.heap.size, 3, none⟩ = some (.int .i64 (x.upto : Int)) := cell_of_row ws _ 3 _ _ _ hg
  have c4 : ws.cell? ⟨w.heap.size, 4, none⟩ = some (.slice A n c) := cell_of_row ws _ 4 _ _ _ hg
  have HWS := Lib.hid hws
  have HC0 := Lib.hid c0
  have HC1 := Lib.hid c1
  have HC2 := Lib.hid c2
  have HC3 := Lib.hid c3
  have HC4 := Lib.hid c4
  have HF := Lib.hid hF
  have HW := Lib.hid hw
  have hep : x.epoch < 256 ^ 4 := hw.epoch
  have hnx : x.next < 256 ^ 4 := hw.next
  clear hr hbs hlen hws hg hF hw hE
  unfold PutI
  cases hrt : rightIdx x
  · rw [hrt] at HF
    go_enter Tryz.func85, Tryz.ntmps85
    go_upto_region 1 with fail
    rw [show w.alloc _ = ws from HWS.out.symm]
    go_wp2_with fail
    refine HF.out.mono ?_
    rintro e w1 ⟨rfl, hb⟩
    have HB1 := Lib.hid (HBS.out.trans (hb.mono HBS.out.size))
    clear hb
    go_wp2_with fail
    go_ret2
    exact ⟨none, 0, 0, rfl, Own.nil _ _, HB1.out⟩
  · rw [hrt] at HF
    obtain ⟨hats, hnm, hup, h500⟩ := idx_all hrt
    rw [HLEN.out] at h500
    have HATS := Lib.hid hats
    have hup' : x.upto < 256 ^ 4 := by omega
    have l4 : ∀ x, (beb x 4).length = 4 := fun x => beb_length x 4
    have l2 : ∀ x, (beb x 2).length = 2 := fun x => beb_length x 2
    have lN := ofStr_length x.name
    clear hats hrt c0 c1 c2 c3 c4
    obtain ⟨t3, ht3⟩ : ∃ t3, t3 = [x.epoch, x.next, x.upto] := ⟨_, rfl⟩
    have HT3 := Lib.hid ht3
    clear ht3
    go_enter Tryz.func85, Tryz.ntmps85
    go_upto_region 1 with fail
    rw [show w.alloc _ = ws from HWS.out.symm]
    have c0 := HC0.out
    have c1 := HC1.out
    have c2 := HC2.out
    have c3 := HC3.out
    have c4 := HC4.out
    go_wp2_with fail
    refine HF.out.mono ?_
    rintro e w1 ⟨rfl, hb⟩
    have hO := OutW.made _ w1 hb
    have HO := Lib.hid hO
    clear hb c0 c1 c2 c3 c4
    have c0 := cell_later hO.below HC0.out
    clear hO
    go_wp2_with fail
    refine (HO.out.text x.name (by omega) (by simp only [List.length_nil]; omega)).mono ?_
    rintro e w2 ⟨rfl, hO⟩
    rw [List.nil_append] at hO
    have HO2 := Lib.hid hO
    clear HO c0
    have c1 := cell_later hO.below HC1.out
    have c2 := cell_later hO.below HC2.out
    have c3 := cell_later hO.below HC3.out
    obtain ⟨wt, hwt⟩ : ∃ wt, wt = w2.alloc (.cells #[.int .i64 (x.epoch : Int), .int .i64 (x.next : Int), .int .i64 (x.upto : Int)] 2) := ⟨_, rfl⟩
    have hgt : wt.heap[w2.heap.size]? = some (.cells #[.int .i64 (x.epoch : Int), .int .i64 (x.next : Int), .int .i64 (x.upto : Int)] 2 (0, 0)) := by rw [hwt]; exact heap_alloc_new w2 _
    have hOt := hO.later (w' := wt) (by rw [hwt]; exact (Below.refl _ _).alloc (Nat.le_refl _) _)
    have HGT := Lib.hid hgt
    have HOT := Lib.hid hOt
    have HWT := Lib.hid hwt
    have hgg : w2.heap.size ≠ w1.heap.size := by have := hO.size; omega
    have HGG := Lib.hid hgg
    clear hO hwt hgt hOt hgg
    go_wp2_with fail
    rw [← HWT.out]
    clear c1 c2 c3
    go_loopw [25] (fun v25 wr => ∃ i : Nat, i ≤ 3 ∧ v25 = .int .i64 (i : Int) ∧ OutW ws wr w1.heap.size (textB x.name ++ (t3.take i).flatMap (fun y => beb y 4)) ∧ wr.heap[w2.heap.size]? = some (.cells #[.int .i64 (x.epoch : Int), .int .i64 (x.next : Int), .int .i64 (x.upto : Int)] 2 (0, 0))) (fun v25 _ => 3 - (intOf v25).toNat)
    case atStart =>
      refine ⟨0, by omega, rfl, ?_, HGT.out⟩
      have := HOT.out
      simpa [textB] using this
    case round =>
      obtain ⟨i, hi, rfl, hO, hgt⟩ := hrel
      have HO := Lib.hid hO
      have HG := Lib.hid hgt
      clear hO hgt
      by_cases hlt : i < 3
      · obtain ⟨y, hy, hyc, hyl⟩ : ∃ y, t3[i]? = some y ∧ wr.cell? ⟨w2.heap.size, i, none⟩ = some (.int .i64 (y : Int)) ∧ y < 256 ^ 4 := by
          rw [HT3.out]
          have hh := fun j => cell_of_row wr w2.heap.size j _ _ _ HG.out
          rcases i with _ | _ | _ | i
          · exact ⟨x.epoch, rfl, hh 0, hep⟩
          · exact ⟨x.next, rfl, hh 1, hnx⟩
          · exact ⟨x.upto, rfl, hh 2, hup'⟩
          · omega
        have hl3 : t3.length = 3 := by rw [HT3.out]; rfl
        obtain ⟨hil, hie⟩ := List.getElem?_eq_some_iff.1 hy
        have hnext : (t3.take (i + 1)).flatMap (fun y => beb y 4) = (t3.take i).flatMap (fun y => beb y 4) ++ beb y 4 := by
          rw [List.take_succ_eq_append_getElem hil, hie, List.flatMap_append]; simp
        have hml : ((t3.take i).flatMap (fun y => beb y 4)).length ≤ 12 := by
          rw [flat_len _ _ 4 (fun m _ => l4 m), List.length_take]; omega
        have HNX := Lib.hid hnext
        clear hy hil hie hnext hl3
        go_wp2_with fail
        refine (HO.out.nt y 4 (by simp only [List.length_append, textB_length]; omega) (by omega) (by omega) hyl).mono ?_
        rintro e w4 ⟨rfl, hO, hk⟩
        have HO4 := Lib.hid hO
        have HG4 := Lib.hid (hk _ _ _ (by decide) HGG.out HG.out)
        clear hO hk hyc
        go_wp2_with fail
        refine ⟨⟨i + 1, hlt, by first | rfl | (congr 1), ?_, HG4.out⟩, by simp [intOf]; omega⟩
        rw [HNX.out, ← List.append_assoc]
        exact HO4.out
      · obtain rfl : i = 3 := by omega
        have hO : OutW ws wr w1.heap.size (textB x.name ++ beb x.epoch 4 ++ beb x.next 4 ++ beb x.upto 4) := by
          have := HO.out
          rw [HT3.out] at this
          simpa using this
        have c4 := cell_later hO.below HC4.out
        have HO3 := Lib.hid hO
        clear hO HO HG
        go_wp2_with fail
        refine (HO3.out.n n 2 (by simp only [List.length_append, textB_length, l4]; omega) (by omega) (by omega) (by omega)).mono ?_
        rintro e w4 ⟨rfl, hO⟩
        have c4 := cell_later hO.below HC4.out
        have HO4 := Lib.hid hO
        clear hO HO3
        go_wp2_with fail
        go_loopw [39] (fun v39 wr => ∃ i : Nat, i ≤ n ∧ v39 = .int .i64 (i : Int) ∧ OutW ws wr w1.heap.size (textB x.name ++ beb x.epoch 4 ++ beb x.next 4 ++ beb x.upto 4 ++ beb n 2 ++ (x.L.take i).flatMap entB)) (fun v39 _ => n - (intOf v39).toNat)
        case atStart => exact ⟨0, Nat.zero_le _, rfl, by have := HO4.out; simpa using this⟩
        case round =>
          obtain ⟨i, hi, rfl, hO⟩ := hrel
          have HO := Lib.hid hO
          clear hO c4
          by_cases hlt : i < n
          · obtain ⟨gA, e, rfl, hxe, hc⟩ := (HR.out.below HO.out.below).map hlt
            obtain ⟨d226, hu, hd⟩ := rowT row226
            have HU := Lib.hid hu
            have HD := Lib.hid hd
            unfold entV at hc
            have HC := Lib.hid hc
            obtain ⟨hil, hie⟩ := List.getElem?_eq_some_iff.1 hxe
            have hat := HATS.out e (List.mem_of_getElem? hxe)
            have hue := HW.out.uids e (List.mem_of_getElem? hxe)
            have hnext : (x.L.take (i + 1)).flatMap entB = (x.L.take i).flatMap entB ++ entB e := by
              rw [List.take_succ_eq_append_getElem hil, hie, List.flatMap_append]; simp
            have hml : ((x.L.take i).flatMap entB).length ≤ 4000 := by
              rw [flat_len _ _ 8 (fun m _ => entB_len m), List.length_take]; omega
            have HNX := Lib.hid hnext
            obtain ⟨u, f'⟩ := e
            dsimp only at hat hue hc HC hnext HNX
            clear hu hd hc hxe hil hie hnext
            obtain ⟨wa, hwa⟩ : ∃ wa, wa = wr.alloc (.cells #[.int .u32 (u : Int), .int .i64 (f' : Int)] 226) := ⟨_, rfl⟩
            have hba : Below wr.heap.size wr wa := by rw [hwa]; exact (Below.refl _ _).alloc (Nat.le_refl _) _
            have a0 : wa.cell? ⟨wr.heap.size, 0, none⟩ = some (.int .u32 (u : Int)) := by rw [hwa]; exact cell_new wr _ 226 rfl
            have a1 : wa.cell? ⟨wr.heap.size, 1, none⟩ = some (.int .i64 (f' : Int)) := by rw [hwa]; exact cell_new wr _ 226 rfl
            have HA1 := Lib.hid a1
            have HBA := Lib.hid hba
            have HWA := Lib.hid hwa
            clear hba hwa
            go_wp2_with (refine wpList_load_mid rfl 226 (.tmp 41) rfl gA (i * 2) rfl _ d226 HC.out HU.out HD.out size226 ?_)
            rw [← HWA.out]
            refine (HO.out.nk HBA.out u 4 (by simp only [List.length_append, l4, l2, textB_length]; omega) (by omega) (by omega) hue).mono ?_
            rintro e w4 ⟨rfl, hO, hk⟩
            have a1 := hk _ _ _ (Nat.le_refl _) HA1.out
            have HO4 := Lib.hid hO
            clear hO hk
            go_wp2_with fail
            refine (HO4.out.n f' 4 (by simp only [List.length_append, l4, l2, textB_length]; omega) (by omega) (by omega) (by omega)).mono ?_
            rintro e w5 ⟨rfl, hO⟩
            have HO5 := Lib.hid hO
            clear hO
            go_wp2_with fail
            refine ⟨⟨i + 1, hlt, by first | rfl | (congr 1), ?_⟩, by simp [intOf]; omega⟩
            rw [HNX.out, ← List.append_assoc]
            have := HO5.out
            rw [List.append_assoc] at this
            exact this
          · obtain rfl : i = n := by omega
            have hO := HO.out
            rw [List.take_of_length_le (by rw [HLEN.out]; exact Nat.le_refl _)] at hO
            have hP := iput_any 1 (by omega) (by omega) ws wr w1.heap.size _ hO (by
              simp only [List.length_append, l4, l2, textB_length]
              rw [flat_len _ _ 8 (fun m _ => entB_len m), HLEN.out]; omega)
            have HP := Lib.hid hP
            clear hP hO
            go_wp2_with fail
            refine HP.out.mono ?_
            rintro e w4 h
            have h := h.more HBS.out
            obtain ⟨A', n', c', rfl, hown, hb⟩ := h
            have HOW := Lib.hid hown
            have HB4 := Lib.hid hb
            clear hown hb
            go_wp2_with fail
            go_ret2
            have e : idxB x = page 1 (textB x.name ++ beb x.epoch 4 ++ beb x.next 4 ++ beb x.upto 4 ++ beb i 2 ++ x.L.flatMap entB) := by unfold idxB idxP; rw [HLEN.out]; rfl
            show Ended w (idxB x) 0 _ _
            rw [e]
            exact ⟨A', n', c', rfl, HOW.out, HB4.out⟩
end Go.Proofs.YtlhaempecidohaaGreatDoor
namespace Go.Proofs.YtlhaempecidohaaGreatDoor
open Go.RowKit
/-- a log's value -/
def LogV (w : World) (v : Value) (L : LogS) (t : Nat) : Prop := ∃ A n c vs, v = .agg (logCells L (.slice A n c) (t : Int) (cleanS L)).toArray ∧ RowR w A n 6 vs ∧ All2 (LiveR w) vs L.live
theorem LiveR.below {w w' : World} (hb : Below w.heap.size w w') (v : List Value) (x : LiveS) (h : LiveR w v x) : LiveR w' v x := by
  obtain ⟨B, m, d, h1, h2, h3⟩ := h
  exact ⟨B, m, d, h1, h2.below hb, h3⟩
theorem LogV.below {w w' : World} {v : Value} {L : LogS} {t : Nat} (h : LogV w v L t) (hb : Below w.heap.size w w') : LogV w' v L t := by
  obtain ⟨A, n, c, vs, h1, h2, h3⟩ := h
  exact ⟨A, n, c, vs, h1, h2.below hb, h3.mono (LiveR.below hb)⟩
theorem ofI_wf {L : LogS} (t : Nat) (h : L.ok) : (ofI L t).wf := by
  unfold ofI
  split
  · refine ⟨h.epoch, h.next, fun e he => ?_⟩
    obtain ⟨x, hx, rfl⟩ := List.mem_map.1 he
    exact (h.live x hx).2.uid
  · exact ⟨by decide, by decide, fun e he => by cases he⟩
theorem ofI_name {L : LogS} (t : Nat) (h : L.name.size ≤ 1000000) : (ofI L t).name.size ≤ 1000000 := by
  unfold ofI
  split
  · exact h
  · exact Nat.zero_le _
theorem flagsOf_wf {L : LogS} (mk : List (Nat × Int)) (h : L.ok) : (flagsOf L mk).wf := by
  have h1 : (ofF L).epoch < 4294967296 ∧ ∀ e ∈ (ofF L).L, e.1 < 4294967296 := by
    unfold ofF
    split
    · refine ⟨h.epoch, fun e he => ?_⟩
      obtain ⟨x, hx, rfl⟩ := List.mem_map.1 he
      exact (h.live x hx).2.uid
    · exact ⟨by decide, fun e he => by cases he⟩
  refine ⟨h1.1, fun e he => ?_⟩
  obtain ⟨y, hy, rfl⟩ := List.mem_map.1 he
  rw [flagOf_fst]
  exact h1.2 y hy
theorem mark_clo (u : Nat) (f : Int) (y : Nat × Int) (gm : Nat) (w : World) (c0 : w.cell? ⟨gm, 0, none⟩ = some (.int .u32 (u : Int))) :
    Calls Tryz.prog 160 #[.agg (markV y).toArray, .pointer (some ⟨gm, 0, none⟩)] w fun e w' => e = .returned (.bool (decide (y.1 = u))) ∧ Below w.heap.size w w' := by
  have hb0 : Below w.heap.size w (w.alloc (.cells (markV y).toArray 160)) := (Below.refl _ _).alloc (Nat.le_refl _) _
  have c0 := cell_later hb0 c0
  have e1 := nat_beq y.1 u
  unfold markV at c0 hb0 ⊢
  have HB := Lib.hid hb0
  clear hb0
  obtain ⟨b, hb⟩ : ∃ b, b = decide (y.1 = u) := ⟨_, rfl⟩
  rw [← hb] at e1 ⊢
  clear hb
  go_enter Tryz.func160, Tryz.ntmps160
  go_wp2
  go_ret
  exact ⟨rfl, HB.out⟩
set_option maxRecDepth 8000 in
set_option maxHeartbeats 1000000 in
theorem idxMark_any (u gm : Nat) (A : Option Addr) (n c : Nat) (mk : List (Nat × Int)) (w : World) (hr : RowR w A n 2 (mk.map markV)) (hn : n ≤ 10000000) (c0 : w.cell? ⟨gm, 0, none⟩ = some (.int .u32 (u : Int))) :
    Calls Tryz.prog 159 #[.slice A n c, .func (Fn.func 160) #[] #[.pointer (some ⟨gm, 0, none⟩)]] w fun e w' =>
      ((∃ (i : Nat) (y : Nat × Int), i < n ∧ e = .returned (.int .i64 (i : Int)) ∧ mk[i]? = some y ∧ mk.find? (fun y => decide (y.1 = u)) = some y) ∨ (e = .returned (.int .i64 (-1)) ∧ mk.find? (fun y => decide (y.1 = u)) = none)) ∧ Below w.heap.size w w' := by
  have hnl : mk.length = n := by have := hr.len; rwa [List.length_map] at this
  have HR := Lib.hid hr
  have H0 := Lib.hid c0
  have HNL : Hid (mk.length = n) := hnl
  clear hr c0 hnl
  go_enter Tryz.func159, Tryz.ntmps159
  go_wp2_with fail
  go_loopw [8] (fun v8 wr => ∃ i : Nat, i ≤ n ∧ v8 = .int .i64 (i : Int) ∧ (∀ y ∈ mk.take i, decide (y.1 = u) = false) ∧ Below w.heap.size w wr) (fun v8 _ => n - (intOf v8).toNat)
  case atStart => exact ⟨0, Nat.zero_le _, rfl, by simp, Below.refl _ _⟩
  case round =>
    obtain ⟨i, hi, rfl, hno, hb⟩ := hrel
    have HNO := Lib.hid hno
    have HB := Lib.hid hb
    clear hno hb
    by_cases hlt : i < n
    · obtain ⟨g, y, rfl, hy, hc⟩ := (HR.out.below HB.out).map hlt
      have hcl := mark_clo u 0 y gm wr (cell_later HB.out H0.out)
      obtain ⟨d160, hu, hd⟩ := rowT row160
      have HU := Lib.hid hu
      have HD := Lib.hid hd
      unfold markV at hc hcl
      have HC := Lib.hid hc
      have HCL := Lib.hid hcl
      have HY := Lib.hid hy
      clear hc hcl hy hu hd
      obtain ⟨b, hbb⟩ : ∃ b, decide (y.1 = u) = b := ⟨_, rfl⟩
      rw [hbb] at HCL
      have HBB := Lib.hid hbb
      clear hbb
      cases b
      all_goals
        go_wp2_with (first
          | (refine wpList_load_mid rfl 160 (.tmp 14) rfl g (i * 2) rfl _ d160 HC.out HU.out HD.out size160 ?_)
          | (go_at_call 160; refine HCL.out.mono ?_; rintro e w1 ⟨rfl, hb1⟩; have HB1 := Lib.hid (HB.out.trans (hb1.mono HB.out.size)); clear hb1))
      · refine ⟨⟨i + 1, hlt, by first | rfl | (congr 1), ?_, HB1.out⟩, by simp [intOf]; omega⟩
        obtain ⟨hil, hie⟩ := List.getElem?_eq_some_iff.1 HY.out
        rw [List.take_succ_eq_append_getElem hil, hie]
        intro z hz
        rcases List.mem_append.1 hz with hz | hz
        · exact HNO.out z hz
        · rw [List.mem_singleton.1 hz]; exact HBB.out
      · go_ret
        refine ⟨.inl ⟨i, y, hlt, rfl, HY.out, ?_⟩, HB1.out⟩
        obtain ⟨hil, hie⟩ := List.getElem?_eq_some_iff.1 HY.out
        rw [← List.take_append_drop i mk, List.find?_append, List.drop_eq_getElem_cons hil, hie, List.find?_cons, HBB.out, show (mk.take i).find? (fun y => decide (y.1 = u)) = none from List.find?_eq_none.2 (fun z hz => by rw [HNO.out z hz]; simp)]
        rfl
    · go_wp2_with fail
      go_ret
      refine ⟨.inr ⟨rfl, ?_⟩, HB.out⟩
      exact List.find?_eq_none.2 (fun z hz => by rw [HNO.out z (by rw [List.take_of_length_le (by rw [HNL.out]; omega)]; exact hz)]; simp)
theorem mix_set {α : Type} (f : α → α) (l : List α) (i : Nat) (x : α) (h : l[i]? = some x) :
    ((l.take i).map f ++ l.drop i).set i (f x) = (l.take (i + 1)).map f ++ l.drop (i + 1) ∧ ((l.take i).map f ++ l.drop i)[i]? = some x ∧ (f x = x → (l.take i).map f ++ l.drop i = (l.take (i + 1)).map f ++ l.drop (i + 1)) := by
  obtain ⟨hi, hx⟩ := List.getElem?_eq_some_iff.1 h
  have hl : ((l.take i).map f).length = i := by rw [List.length_map, List.length_take]; omega
  have e1 : (l.take i).map f ++ l.drop i = (l.take i).map f ++ x :: l.drop (i + 1) := by rw [List.drop_eq_getElem_cons hi, hx]
  have e2 : (l.take (i + 1)).map f ++ l.drop (i + 1) = (l.take i).map f ++ f x :: l.drop (i + 1) := by
    rw [List.take_succ_eq_append_getElem hi, hx, List.map_append, List.append_assoc]; rfl
  rw [e1, e2]
  refine ⟨?_, ?_, fun hf => by rw [hf]⟩
  · rw [List.set_append_right _ _ (by omega), hl, Nat.sub_self]; rfl
  · rw [List.getElem?_append_right (by omega), hl, Nat.sub_self]; rfl
/-- what pages hands back -/
def PgsE (w : World) (L : LogS) (t : Nat) (mk : List (Nat × Int)) (e : Ending) (w' : World) : Prop :=
  if pagesOk L t mk = true then ∃ A n c A' n' c', e = .returned (.tuple #[.slice A n c, .slice A' n' c', .int .i64 0]) ∧ Own w' w.heap.size A n c (flgB (flagsOf L mk)) ∧ Own w' w.heap.size A' n' c' (idxB (ofI L t)) ∧ Below w.heap.size w w'
  else ∃ (v v' : Value) (z : Int), z ≠ 0 ∧ e = .returned (.tuple #[v, v', .int .i64 z]) ∧ Below w.heap.size w w'
end Go.Proofs.YtlhaempecidohaaGreatDoor
