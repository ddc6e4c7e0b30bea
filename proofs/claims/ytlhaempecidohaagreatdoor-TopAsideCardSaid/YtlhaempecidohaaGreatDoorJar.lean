/-
  Words for maps keyed by digests: a look-up hands back something; a store leaves such a map.
-/
import Derived.WideKeyArr
import Derived.Test.YtlhaempecidohaaGreatDoorJah
import Derived.Test.YtlhaempecidohaaGreatDoorJai
import Derived.Test.YtlhaempecidohaaGreatDoorJad
set_option linter.unusedSimpArgs false
set_option linter.unusedVariables false
namespace Go.Proofs.YtlhaempecidohaaGreatDoor
open Go.RowKit Go.MapKept Go.WideMaps
open Go.Maps (Keyed)
theorem mapM_some {α β : Type} {f : α → Option β} : ∀ l : List α, (∀ x ∈ l, ∃ y, f x = some y) → ∃ ys, l.mapM f = some ys
  | [], _ => ⟨[], rfl⟩
  | a :: l, h => by
    obtain ⟨y, hy⟩ := h a (by simp)
    obtain ⟨ys, hys⟩ := mapM_some l (fun x hx => h x (by simp [hx]))
    exact ⟨y :: ys, by rw [List.mapM_cons, hy, hys]; rfl⟩
theorem keyOf_arr {P : Program} {k e : TypeId} {n : Nat} {q : IntKind} (A : ArrKey P k e n) (he : P.underlying e = some (.int q)) (hsz : ∃ m, P.types.size = m + 1) {l : List Nat} (hl : l.length = n) (hw : ∀ x ∈ l, (Lit.int q (x : Int)).wf = true) :
    ∃ z, keyOf P k (.agg (mk q l)) = some z := by
  have hkt := A.keyType hsz
  obtain ⟨m, hm⟩ := hsz
  have hcl : (mk q l).toList.length = n := by simp [mk, hl]
  unfold keyOf
  simp only [A.hu]
  rw [if_pos (by simp [hkt, Value.formed, A.hu, A.size, mk_size, hl]), hm]
  unfold Program.keyLits
  simp only [A.hu, Value.cells]
  rw [if_pos (by rw [A.size]; exact hcl)]
  obtain ⟨ys, hys⟩ := mapM_some (f := fun i => P.keyLits (m + 1) e (((mk q l).toList.drop (i * P.cellsOf e)).take (P.cellsOf e))) (List.range n) (fun i hi => by
    have hi := List.mem_range.1 hi
    have hx : ((mk q l).toList.drop (i * P.cellsOf e)).take (P.cellsOf e) = [.int q ((l[i]'(by omega) : Nat) : Int)] := by
      rw [A.one, Nat.mul_one]
      simp only [mk]
      rw [List.drop_eq_getElem_cons (by simpa [hl] using hi)]
      simp
    rw [hx]
    refine ⟨[.int q ((l[i]'(by omega) : Nat) : Int)], ?_⟩
    unfold Program.keyLits
    simp [he, hw _ (List.getElem_mem (by omega : i < l.length))])
  rw [hys]
  exact ⟨_, rfl⟩
theorem arr138 : ArrKey Tryz.prog 138 5 32 := ⟨y138, by kernel_rfl, by kernel_rfl, by kernel_rfl⟩
theorem keyed138 : Keyed Tryz.prog 138 := Keyed.of_law arr138.law
theorem digKey (b : List Nat) (hl : b.length = 32) (hb : ∀ x ∈ b, x < 256) : ∃ z, keyOf Tryz.prog 138 (.agg (mk .u8 b)) = some z :=
  keyOf_arr arr138 Tryz.underlying5 ⟨_, rfl⟩ hl (fun x hx => by have := hb x hx; simp [Lit.wf, IntKind.min, IntKind.max, IntKind.bits, IntKind.signed]; omega)
theorem Tryz.underlying137 : Tryz.prog.underlying 137 = some (.map 138 3) := by kernel_rfl
/-- Block b is a map of digests. -/
def MapK (w : World) (b : Nat) (n : Nat) : Prop :=
  ∃ es clock, w.heap[b]? = some (.map es clock) ∧ (∀ e ∈ es.toList, (∃ l, keyOf Tryz.prog 138 e.key = some l) ∧ ∃ z : Int, e.val = .int .i64 z) ∧ (n = 0 → es.toList = [])
theorem MapK.made (w : World) : MapK (w.alloc (.map #[] 0)) w.heap.size 0 := ⟨#[], 0, heap_alloc_new w _, by simp, fun _ => rfl⟩
theorem MapK.only {S : Nat → Prop} {w w' : World} {b n : Nat} (h : MapK w b n) (ho : Only S w w') (hs : ¬ S b) : MapK w' b n := by
  obtain ⟨es, clock, hb, r⟩ := h
  exact ⟨es, clock, ho.heap hb hs, r⟩
theorem MapK.below {w w' : World} {b n : Nat} (h : MapK w b n) (hb : Below w.heap.size w w') : MapK w' b n := h.only (Only.of_below hb (fun _ => False)) (fun h => h)
theorem MapK.lt {w : World} {b n : Nat} (h : MapK w b n) : b < w.heap.size := by
  obtain ⟨es, clock, hb, _⟩ := h
  exact (Array.getElem?_eq_some_iff.1 hb).1
theorem MapK.look {w : World} {b n : Nat} (h : MapK w b n) {v : Value} {l : Lit} (hv : keyOf Tryz.prog 138 v = some l) :
    ∃ (z : Int) (ok : Bool), (Instr.lookup 137 (.map (some b)) v true).run Tryz.prog w = .ok (.tuple #[.int .i64 z, .bool ok]) w ∧ (n = 0 → ok = false) := by
  obtain ⟨es, clock, hb, he, hn⟩ := h
  have hck := fun em => keyed138.check w em hv
  have hz : (zeroValue 3).run Tryz.prog w = .ok (.int .i64 0) w := by kernel_rfl
  rcases keyed138.find w hv es.toList (fun e h1 => (he e h1).1) with ⟨h1, h2⟩ | ⟨j, e0, h1, h2, h3⟩
  · exact ⟨0, false, by simp [Instr.lookup, run_underlying Tryz.underlying137, Go.MapKept.run_getObj_map hb, hck, h1, hz, Result.andThen], fun _ => rfl⟩
  · obtain ⟨z, hz0⟩ := (he e0 (List.mem_of_getElem? h2)).2
    refine ⟨z, true, by simp [Instr.lookup, run_underlying Tryz.underlying137, Go.MapKept.run_getObj_map hb, hck, h1, hz0, Result.andThen], fun h0 => ?_⟩
    rw [hn h0] at h2
    cases h2
theorem MapK.store {w : World} {b n : Nat} (h : MapK w b n) {v : Value} {l : Lit} (hv : keyOf Tryz.prog 138 v = some l) (z : Int) (m : Nat) (hm : m ≠ 0) :
    ∃ w', (Instr.mapUpdate 137 (.map (some b)) v (.int .i64 z)).run Tryz.prog w = .ok () w' ∧ MapK w' b m ∧ Only (fun k => k = b) w w' := by
  obtain ⟨es, clock, hb, he, hn⟩ := h
  have hbl := (Array.getElem?_eq_some_iff.1 hb).1
  have hck := fun em => keyed138.check w em hv
  rcases keyed138.find w hv es.toList (fun e h1 => (he e h1).1) with ⟨h1, h2⟩ | ⟨j, e0, h1, h2, h3⟩
  · refine ⟨{ w with heap := w.heap.setIfInBounds b (.map (es.push ⟨v, .int .i64 z, clock⟩) (clock + 1)) }, ?_, ⟨es.push ⟨v, .int .i64 z, clock⟩, clock + 1, by show (w.heap.setIfInBounds b _)[b]? = _; simp [hbl], ?_, fun h0 => absurd h0 hm⟩, only_setBlock _ _ _⟩
    · simp [Instr.mapUpdate, run_underlying Tryz.underlying137, Go.MapKept.run_getObj_map hb, hck, h1, Go.MapKept.run_setObj_map _ hb, Result.andThen]
    · intro e h4
      rw [Array.toList_push] at h4
      rcases List.mem_append.1 h4 with h4 | h4
      · exact he e h4
      · rw [List.mem_singleton.1 h4]
        exact ⟨⟨l, hv⟩, z, rfl⟩
  · have hj : es[j]? = some e0 := by simpa using h2
    have hstay := keyed138.stays w hv
    refine ⟨{ w with heap := w.heap.setIfInBounds b (.map (es.modify j (fun e' => { e' with key := v, val := .int .i64 z })) clock) }, ?_, ⟨es.modify j (fun e' => { e' with key := v, val := .int .i64 z }), clock, by show (w.heap.setIfInBounds b _)[b]? = _; simp [hbl], ?_, fun h0 => absurd h0 hm⟩, only_setBlock _ _ _⟩
    · simp [Instr.mapUpdate, run_underlying Tryz.underlying137, Go.MapKept.run_getObj_map hb, hck, h1, hj, h3, hstay, Go.MapKept.run_setObj_map _ hb, Result.andThen]
    · intro e h4
      rw [Array.toList_modify, Go.ChangeMaps.modify_eq_set _ _ _ _ h2] at h4
      rcases List.mem_or_eq_of_mem_set h4 with h4 | h4
      · exact he e h4
      · rw [h4]
        exact ⟨⟨l, hv⟩, z, rfl⟩
theorem MapK.noB {w : World} {b n : Nat} (h : MapK w b n) : NoB w b := by
  obtain ⟨es, clock, hb, _⟩ := h
  exact NoB.map hb
end Go.Proofs.YtlhaempecidohaaGreatDoor
