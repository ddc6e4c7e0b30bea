/-
  Words for maps keyed by texts, whatever their elements: which pairs a map's block holds, in their order; look-up, store, deletion, the range's step. Words for maps, more: a range over a map under way, the pairs still to come; look-ups whose result is known.
-/
import Derived.Maps.OwnSet
import Derived.Maps.RangeWalk
import Derived.Sort.KeysCollected
import Derived.Test.YtlhaempecidohaaGreatDoorJab
import Derived.Test.YtlhaempecidohaaGreatDoorJad
import Derived.Maps.RangeRun
set_option linter.unusedSimpArgs false
set_option linter.unusedVariables false
namespace Go.Proofs.YtlhaempecidohaaGreatDoor
open Go.RowKit Go.MapKept Go.WideMaps
open Go.Maps (Keyed)
def kv (e : MapEntry) : Value × Value := (e.key, e.val)
def sv (p : ByteArray × Value) : Value × Value := (.string p.1, p.2)
/-- Block b is a map that holds just the pairs L, in this order. -/
def MapS (w : World) (b : Nat) (L : AL Value) : Prop :=
  ∃ es clock, w.heap[b]? = some (.map es clock) ∧ Stamped es clock ∧ es.toList.map kv = L.map sv ∧ ∀ p ∈ L, p.1.size ≤ maxLen
theorem sv_inj {p q : ByteArray × Value} (h : (sv p).1 = (sv q).1) : p.1 = q.1 := by
  simp only [sv, Value.string.injEq] at h; exact h
theorem MapS.nodup {w : World} {b : Nat} {L : AL Value} (h : MapS w b L) : (AL.keys L).Nodup := by
  obtain ⟨es, clock, hb, ⟨_, _, h3⟩, hL, _⟩ := h
  have e : es.toList.map (·.key) = (AL.keys L).map Value.string := by
    have := congrArg (List.map Prod.fst) hL
    simp only [List.map_map] at this
    simp only [AL.keys, List.map_map]
    exact this
  rw [e] at h3
  exact nodup_of_map _ h3
theorem MapS.lt {w : World} {b : Nat} {L : AL Value} (h : MapS w b L) : b < w.heap.size := by
  obtain ⟨es, clock, hb, _⟩ := h
  exact (Array.getElem?_eq_some_iff.1 hb).1
theorem MapS.only {S : Nat → Prop} {w w' : World} {b : Nat} {L : AL Value} (h : MapS w b L) (ho : Only S w w') (hs : ¬ S b) : MapS w' b L := by
  obtain ⟨es, clock, hb, r⟩ := h
  exact ⟨es, clock, ho.heap hb hs, r⟩
theorem MapS.below {w w' : World} {b : Nat} {L : AL Value} (h : MapS w b L) (hb : Below w.heap.size w w') : MapS w' b L := h.only (Only.of_below hb (fun _ => False)) (fun h => h)
theorem MapS.made (w : World) : MapS (w.alloc (.map #[] 0)) w.heap.size [] := ⟨#[], 0, heap_alloc_new w _, stamped_empty 0, rfl, by simp⟩
theorem pair_at {es : Array MapEntry} {L : AL Value} (hL : es.toList.map kv = L.map sv) {j : Nat} {e : MapEntry} (hj : es.toList[j]? = some e) : ∃ n, L[j]? = some (n, e.val) ∧ e.key = .string n := by
  have h1 : (es.toList.map kv)[j]? = some (kv e) := by rw [List.getElem?_map, hj]; rfl
  rw [hL, List.getElem?_map] at h1
  rcases hp : L[j]? with _ | p
  · rw [hp] at h1; cases h1
  · rw [hp] at h1
    simp only [Option.map_some, Option.some.injEq, sv, kv, Prod.mk.injEq] at h1
    obtain ⟨n, v⟩ := p
    exact ⟨n, by rw [← h1.2], h1.1.symm⟩
theorem get_none_of {es : Array MapEntry} {L : AL Value} (hL : es.toList.map kv = L.map sv) {s : ByteArray} (h : ∀ e ∈ es.toList, e.key ≠ .string s) : AL.get L s = none := by
  rw [AL.get_none_iff]
  intro hm
  obtain ⟨p, hp, rfl⟩ := List.mem_map.1 hm
  have : sv p ∈ es.toList.map kv := by rw [hL]; exact List.mem_map.2 ⟨p, hp, rfl⟩
  obtain ⟨e, he, h1⟩ := List.mem_map.1 this
  exact h e he (congrArg Prod.fst h1)
theorem put_at : ∀ {α : Type} {L : AL α} (_ : (AL.keys L).Nodup) {j : Nat} {n : ByteArray} {v : α} (_ : L[j]? = some (n, v)) (u : α), AL.put L n u = L.set j (n, u)
  | _, p :: L, _, 0, n, v, h, u => by
    cases h
    simp [AL.put]
  | _, p :: L, hn, j + 1, n, v, h, u => by
    rw [AL.keys, List.map_cons, List.nodup_cons] at hn
    have hm : n ∈ AL.keys L := List.mem_map.2 ⟨(n, v), List.mem_of_getElem? h, rfl⟩
    have hne : p.1 ≠ n := fun e => hn.1 (by rw [e]; exact hm)
    rw [AL.put, if_neg hne, put_at hn.2 h u]
    rfl
theorem put_new : ∀ {α : Type} {L : AL α} {n : ByteArray} (_ : AL.get L n = none) (u : α), AL.put L n u = L ++ [(n, u)]
  | _, [], n, _, u => rfl
  | _, p :: L, n, h, u => by
    rw [AL.get_cons] at h
    split at h
    · cases h
    · rename_i hne
      rw [AL.put, if_neg hne, put_new h u]
      rfl
theorem del_at : ∀ {α : Type} {L : AL α} (_ : (AL.keys L).Nodup) {j : Nat} {n : ByteArray} {v : α} (_ : L[j]? = some (n, v)), AL.del L n = L.eraseIdx j
  | _, p :: L, _, 0, n, v, h => by
    cases h
    simp [AL.del]
  | _, p :: L, hn, j + 1, n, v, h => by
    rw [AL.keys, List.map_cons, List.nodup_cons] at hn
    have hm : n ∈ AL.keys L := List.mem_map.2 ⟨(n, v), List.mem_of_getElem? h, rfl⟩
    have hne : p.1 ≠ n := fun e => hn.1 (by rw [e]; exact hm)
    rw [AL.del, if_neg hne, del_at hn.2 h]
    rfl
theorem del_new : ∀ {α : Type} {L : AL α} {n : ByteArray} (_ : AL.get L n = none), AL.del L n = L
  | _, [], n, _ => rfl
  | _, p :: L, n, h => by
    rw [AL.get_cons] at h
    split at h
    · cases h
    · rename_i hne
      rw [AL.del, if_neg hne, del_new h]
section
variable {P : Program} {k : TypeId} {w : World} {b : Nat} {L : AL Value}
theorem map_find (hk : P.underlying k = some .string) {es : Array MapEntry} (hL : es.toList.map kv = L.map sv) (hsz : ∀ p ∈ L, p.1.size ≤ maxLen) {s : ByteArray} (hs : s.size ≤ maxLen) :
    ((Instr.findKey k (.string s) es.toList).run P w = .ok none w ∧ ∀ e ∈ es.toList, e.key ≠ .string s) ∨ ∃ j e, (Instr.findKey k (.string s) es.toList).run P w = .ok (some (j, e.val)) w ∧ es.toList[j]? = some e ∧ e.key = .string s := by
  refine (Maps.string_keyed hk).find w (keyOf_string_mk hk hs) es.toList (fun e he => ?_)
  obtain ⟨j, hj⟩ := List.mem_iff_getElem?.1 he
  obtain ⟨n, h1, h2⟩ := pair_at hL hj
  rw [h2]
  exact ⟨_, keyOf_string_mk hk (hsz _ (List.mem_of_getElem? h1))⟩
/-- what a look-up hands back -/
def looked (L : AL Value) (s : ByteArray) (z : Value) (c : Bool) : Value :=
  match AL.get L s with
  | some v => if c then .tuple #[v, .bool true] else v
  | none => if c then .tuple #[z, .bool false] else z
theorem MapS.look (h : MapS w b L) {t e : TypeId} (ht : P.underlying t = some (.map k e)) (hk : P.underlying k = some .string) {z : Value} (hz : (zeroValue e).run P w = .ok z w) {s : ByteArray} (hs : s.size ≤ maxLen) (c : Bool) :
    (Instr.lookup t (.map (some b)) (.string s) c).run P w = .ok (looked L s z c) w := by
  have hn := h.nodup
  obtain ⟨es, clock, hb, hst, hL, hsz⟩ := h
  have hck := fun em => (Maps.string_keyed hk).check w em (keyOf_string_mk hk hs)
  rcases map_find (w := w) hk hL hsz hs with ⟨h1, h2⟩ | ⟨j, e0, h1, h2, h3⟩
  · have hg := get_none_of hL h2
    unfold looked
    rw [hg]
    simp [Instr.lookup, run_underlying ht, Go.MapKept.run_getObj_map hb, hck, h1, hz, Result.andThen]
  · obtain ⟨n, g1, g2⟩ := pair_at hL h2
    rw [h3] at g2
    simp only [Value.string.injEq] at g2
    subst g2
    have hg : AL.get L s = some e0.val := AL.get_of_mem hn (List.mem_of_getElem? g1)
    unfold looked
    rw [hg]
    simp [Instr.lookup, run_underlying ht, Go.MapKept.run_getObj_map hb, hck, h1, Result.andThen]
theorem only_setBlock (w : World) (b : Nat) (o : Obj) : Only (fun k => k = b) w { w with heap := w.heap.setIfInBounds b o } :=
  ⟨rfl, rfl, rfl, by simp, fun i hi hn => by
    show (w.heap.setIfInBounds b o)[i]? = _
    rw [Array.getElem?_setIfInBounds, if_neg (fun e => hn e.symm)]⟩
theorem MapS.store (h : MapS w b L) {t e : TypeId} (ht : P.underlying t = some (.map k e)) (hk : P.underlying k = some .string) {s : ByteArray} (hs : s.size ≤ maxLen) (v : Value) :
    ∃ w', (Instr.mapUpdate t (.map (some b)) (.string s) v).run P w = .ok () w' ∧ MapS w' b (AL.put L s v) ∧ Only (fun k => k = b) w w' := by
  have hn := h.nodup
  obtain ⟨es, clock, hb, hst, hL, hsz⟩ := h
  have hbl := (Array.getElem?_eq_some_iff.1 hb).1
  have hck := fun em => (Maps.string_keyed hk).check w em (keyOf_string_mk hk hs)
  rcases map_find (w := w) hk hL hsz hs with ⟨h1, h2⟩ | ⟨j, e0, h1, h2, h3⟩
  · have hg := get_none_of hL h2
    refine ⟨{ w with heap := w.heap.setIfInBounds b (.map (es.push ⟨.string s, v, clock⟩) (clock + 1)) }, ?_, ⟨es.push ⟨.string s, v, clock⟩, clock + 1, by show (w.heap.setIfInBounds b _)[b]? = _; simp [hbl], stamped_push hst h2, ?_, ?_⟩, only_setBlock _ _ _⟩
    · simp [Instr.mapUpdate, run_underlying ht, Go.MapKept.run_getObj_map hb, hck, h1, Go.MapKept.run_setObj_map _ hb, Result.andThen]
    · rw [put_new hg, Array.toList_push, List.map_append, List.map_append, hL]; rfl
    · rw [put_new hg]
      intro p hp
      rcases List.mem_append.1 hp with hp | hp
      · exact hsz p hp
      · rw [List.mem_singleton.1 hp]; exact hs
  · have hj : es[j]? = some e0 := by simpa using h2
    have hstay := (Maps.string_keyed hk).stays w (keyOf_string_mk (P := P) hk hs)
    obtain ⟨n, g1, g2⟩ := pair_at hL h2
    rw [h3] at g2
    simp only [Value.string.injEq] at g2
    subst g2
    have hkeyf : ∀ e', es[j]? = some e' → ({ e' with key := .string s, val := v } : MapEntry).key = e'.key := fun e' he' => by rw [hj] at he'; cases he'; exact h3.symm
    refine ⟨{ w with heap := w.heap.setIfInBounds b (.map (es.modify j (fun e' => { e' with key := .string s, val := v })) clock) }, ?_,
      ⟨es.modify j (fun e' => { e' with key := .string s, val := v }), clock, by show (w.heap.setIfInBounds b _)[b]? = _; simp [hbl], stamped_modify hst _ _ (fun _ _ => rfl) (fun e' _ he' => hkeyf e' he'), ?_, ?_⟩, only_setBlock _ _ _⟩
    · simp [Instr.mapUpdate, run_underlying ht, Go.MapKept.run_getObj_map hb, hck, h1, hj, h3, hstay, Go.MapKept.run_setObj_map _ hb, Result.andThen]
    · rw [put_at hn g1, Array.toList_modify, Go.ChangeMaps.modify_eq_set _ _ _ _ h2, List.map_set, List.map_set, hL]; rfl
    · rw [put_at hn g1]
      intro p hp
      rcases List.mem_or_eq_of_mem_set hp with hp | hp
      · exact hsz p hp
      · rw [hp]; exact hs
theorem MapS.drop (h : MapS w b L) {t e ty : TypeId} (ht : P.underlying t = some (.map k e)) (hk : P.underlying k = some .string) {s : ByteArray} (hs : s.size ≤ maxLen) :
    ∃ w', (Builtin.delete_ #[t, k] ty #[.map (some b), .string s]).run P w = .ok (.tuple #[]) w' ∧ MapS w' b (AL.del L s) ∧ Only (fun k => k = b) w w' := by
  have hn := h.nodup
  obtain ⟨es, clock, hb, hst, hL, hsz⟩ := h
  have hbl := (Array.getElem?_eq_some_iff.1 hb).1
  have hck := fun em => (Maps.string_keyed hk).check w em (keyOf_string_mk hk hs)
  rcases map_find (w := w) hk hL hsz hs with ⟨h1, h2⟩ | ⟨j, e0, h1, h2, h3⟩
  · have hg := get_none_of hL h2
    refine ⟨{ w with heap := w.heap.setIfInBounds b (.map es clock) }, ?_, ⟨es, clock, by show (w.heap.setIfInBounds b _)[b]? = _; simp [hbl], hst, by rw [del_new hg]; exact hL, by rw [del_new hg]; exact hsz⟩, only_setBlock _ _ _⟩
    simp [Builtin.delete_, run_underlying ht, Go.MapKept.run_getObj_map hb, hck, h1, Go.MapKept.run_setObj_map _ hb, Result.andThen]
  · obtain ⟨n, g1, g2⟩ := pair_at hL h2
    rw [h3] at g2
    simp only [Value.string.injEq] at g2
    subst g2
    have hjs : j < es.size := by have := (List.getElem?_eq_some_iff.1 h2).1; simpa using this
    have hsub : (es.eraseIdxIfInBounds j).toList = es.toList.eraseIdx j := by
      unfold Array.eraseIdxIfInBounds
      rw [dif_pos hjs]
      simp
    refine ⟨{ w with heap := w.heap.setIfInBounds b (.map (es.eraseIdxIfInBounds j) clock) }, ?_, ⟨es.eraseIdxIfInBounds j, clock, by show (w.heap.setIfInBounds b _)[b]? = _; simp [hbl], stamped_erase hst j, ?_, ?_⟩, only_setBlock _ _ _⟩
    · simp [Builtin.delete_, run_underlying ht, Go.MapKept.run_getObj_map hb, hck, h1, Go.MapKept.run_setObj_map _ hb, Result.andThen]
    · rw [del_at hn g1, hsub, Go.ChangeMaps.map_eraseIdx, Go.ChangeMaps.map_eraseIdx, hL]
    · rw [del_at hn g1]
      intro p hp
      exact hsz p ((List.eraseIdx_sublist _ _).subset hp)
/-- how an element reads where nobody reads it -/
def unread {H : Type} : Value → Option (DataW H × List MemPlace) := fun _ => some (.nil, [])
theorem rd_unread {H : Type} (hk : P.underlying k = some .string) {es : Array MapEntry} (hL : es.toList.map kv = L.map sv) (hsz : ∀ p ∈ L, p.1.size ≤ maxLen) {x : MapEntry} (hx : x ∈ es.toList) :
    ∃ s : ByteArray, x.key = .string s ∧ WideElems.rd P k (unread (H := H)) x = some (.string s.data.toList, .nil) := by
  obtain ⟨j, hj⟩ := List.mem_iff_getElem?.1 hx
  obtain ⟨n, h1, h2⟩ := pair_at hL hj
  refine ⟨n, h2, ?_⟩
  unfold WideElems.rd
  rw [h2, keyOf_string_mk hk (hsz _ (List.mem_of_getElem? h1))]
  rfl
/-- as the library's word for maps, the elements unread -/
theorem MapS.owns {H : Type} (h : MapS w b L) (hk : P.underlying k = some .string) (hlen : L.length ≤ maxLen) :
    ∃ D : DataW H, w.ownsMap P k unread b L.length D ∧ (strKeys D).Perm (L.map fun p => p.1.data.toList) ∧ Maps.size D = L.length := by
  obtain ⟨es, clock, hb, hst, hL, hsz⟩ := h
  have hlen' : es.size = L.length := by have := congrArg List.length hL; simpa using this
  refine ⟨_, ⟨es, clock, hb, ⟨by omega, hst, fun x hx => ?_⟩, by omega, rfl⟩, ?_, ?_⟩
  · obtain ⟨s, _, h2⟩ := rd_unread (H := H) hk hL hsz hx
    exact ⟨_, h2⟩
  · show (List.map (fun p => strOf p.1) ((es.toList.map (WideElems.rg P k (unread (H := H)))).foldr DataW.insert [])).Perm _
    refine ((WideShapes.sorted_perm _).map _).trans ?_
    rw [List.map_map]
    have e : es.toList.map ((fun p => strOf p.1) ∘ WideElems.rg P k (unread (H := H))) = L.map fun p => p.1.data.toList := by
      have e1 : es.toList.map ((fun p => strOf p.1) ∘ WideElems.rg P k (unread (H := H))) = (es.toList.map kv).map fun q => match q.1 with | .string s => s.data.toList | _ => [] := by
        rw [List.map_map]
        refine List.map_congr_left (fun x hx => ?_)
        obtain ⟨s, h1, h2⟩ := rd_unread (H := H) hk hL hsz hx
        simp only [Function.comp, WideElems.rg_of h2, kv, h1, strOf]
      rw [e1, hL, List.map_map]
      rfl
    rw [e]
  · show List.length _ = _
    rw [length_sorted, List.length_map, Array.length_toList]
    exact hlen'
end
section
variable {P : Program} (w : World) {ops : Array Oper} {rest : List Oper} {o : Oper} {a : Act} {Q : Exit → Act → World → Prop}
theorem wpList_look (hg : o.guard = none) (m x : Operand) (t : TypeId) (c : Bool) (hop : o.op = Op.lookup t m x c) (k e : TypeId) (ht : P.underlying t = some (.map k e)) (hk : P.underlying k = some .string)
    (z : Value) (hz : (zeroValue e).run P w = .ok z w) (b : Nat) (L : AL Value) (hm : a.eval m = .map (some b)) (h : MapS w b L) (s : ByteArray) (hx : a.eval x = .string s) (hs : s.size ≤ maxLen)
    (hK : wpList P ops Q rest (a.put o.dst (looked L s z c)) w) : wpList P ops Q (o :: rest) a w := by
  refine wpList_plain hg fun K' hK' => ?_
  unfold Oper.wp
  simp [execOp, hop, hm, hx, h.look ht hk hz hs, Result.andThen]
  exact hK' _ _ hK
theorem wpList_mstore (hg : o.guard = none) (m x v : Operand) (t : TypeId) (hop : o.op = Op.mapUpdate t m x v) (k e : TypeId) (ht : P.underlying t = some (.map k e)) (hk : P.underlying k = some .string)
    (b : Nat) (L : AL Value) (hm : a.eval m = .map (some b)) (h : MapS w b L) (s : ByteArray) (hx : a.eval x = .string s) (hs : s.size ≤ maxLen) (u : Value) (hv : a.eval v = u)
    (hK : ∀ w', MapS w' b (AL.put L s u) → Only (fun k => k = b) w w' → wpList P ops Q rest (a.put o.dst undef) w') : wpList P ops Q (o :: rest) a w := by
  refine wpList_plain hg fun K' hK' => ?_
  obtain ⟨w', hrun, r1, r2⟩ := h.store ht hk hs u
  unfold Oper.wp
  simp [execOp, hop, hm, hx, hv, hrun, Result.andThen]
  exact hK' _ _ (hK w' r1 r2)
theorem wpList_mdrop (hg : o.guard = none) (m x : Operand) (t k : TypeId) (hop : o.op = Op.call { callee := Callee.builtin Builtin.delete, args := #[m, x], argTypes := #[t, k] }) (e : TypeId) (ht : P.underlying t = some (.map k e)) (hk : P.underlying k = some .string)
    (b : Nat) (L : AL Value) (hm : a.eval m = .map (some b)) (h : MapS w b L) (s : ByteArray) (hx : a.eval x = .string s) (hs : s.size ≤ maxLen)
    (hK : ∀ w', MapS w' b (AL.del L s) → Only (fun k => k = b) w w' → wpList P ops Q rest (a.put o.dst (.tuple #[])) w') : wpList P ops Q (o :: rest) a w := by
  refine wpList_plain hg fun K' hK' => ?_
  obtain ⟨w', hrun, r1, r2⟩ := h.drop (ty := o.type) ht hk hs
  unfold Oper.wp
  simp [execOp, hop, resolve, invoke, builtin, hm, hx, hrun, Result.andThen]
  exact hK' _ _ (hK w' r1 r2)
end
end Go.Proofs.YtlhaempecidohaaGreatDoor
namespace Go.Proofs.YtlhaempecidohaaGreatDoor
open Go.RowKit Go.MapKept Go.WideMaps
/-- Block r is a range over the map at block b; the pairs 'left' are still to come. -/
def MapIt (w : World) (b r : Nat) (left : AL Value) : Prop :=
  ∃ es clock since seen c0, w.heap[b]? = some (.map es clock) ∧ Stamped es clock ∧ w.heap[r]? = some (.mapIter (some b) since seen c0) ∧
    (∀ x ∈ es.toList, x.born < since) ∧ since ≤ c0 ∧ since ≤ clock ∧ (leftOf es seen).toList.map kv = left.map sv
theorem MapIt.ne {w : World} {b r : Nat} {left : AL Value} (h : MapIt w b r left) : r ≠ b := by
  obtain ⟨es, clock, since, seen, c0, hb, _, hr, _⟩ := h
  rintro rfl
  rw [hb] at hr
  cases hr
theorem MapIt.lt {w : World} {b r : Nat} {left : AL Value} (h : MapIt w b r left) : b < w.heap.size ∧ r < w.heap.size := by
  obtain ⟨es, clock, since, seen, c0, hb, _, hr, _⟩ := h
  exact ⟨(Array.getElem?_eq_some_iff.1 hb).1, (Array.getElem?_eq_some_iff.1 hr).1⟩
theorem MapIt.only {S : Nat → Prop} {w w' : World} {b r : Nat} {left : AL Value} (h : MapIt w b r left) (ho : Only S w w') (hb : ¬ S b) (hr : ¬ S r) : MapIt w' b r left := by
  obtain ⟨es, clock, since, seen, c0, h1, h2, h3, h4⟩ := h
  exact ⟨es, clock, since, seen, c0, ho.heap h1 hb, h2, ho.heap h3 hr, h4⟩
theorem MapIt.below {w w' : World} {b r : Nat} {left : AL Value} (h : MapIt w b r left) (hb : Below w.heap.size w w') : MapIt w' b r left := h.only (Only.of_below hb (fun _ => False)) (fun h => h) (fun h => h)
theorem MapIt.left_eq {w : World} {b r : Nat} {left : AL Value} (h : MapIt w b r left) : w.rangeLeft b r = left.length := by
  obtain ⟨es, clock, since, seen, c0, hb, _, hr, _, _, _, hl⟩ := h
  simp only [World.rangeLeft, hb, hr]
  have := congrArg List.length hl
  simpa using this
theorem born_split {e : MapEntry} : ∀ {l1 l2 : List MapEntry}, ((l1 ++ e :: l2).map (·.born)).Nodup → (l1 ++ e :: l2).filter (fun x => !(x.born == e.born)) = l1 ++ l2
  | [], l2, h => by
    rw [List.nil_append, List.map_cons, List.nodup_cons] at h
    rw [List.nil_append, List.filter_cons, if_neg (by simp), List.nil_append, List.filter_eq_self]
    intro x hx
    have : x.born ≠ e.born := fun e' => h.1 (by rw [← e']; exact List.mem_map.2 ⟨x, hx, rfl⟩)
    simpa using this
  | y :: l1, l2, h => by
    rw [List.cons_append, List.map_cons, List.nodup_cons] at h
    have hy : y.born ≠ e.born := fun e' => h.1 (by rw [e']; exact List.mem_map.2 ⟨e, by simp, rfl⟩)
    rw [List.cons_append, List.filter_cons, if_pos (by simpa using hy), born_split h.2, List.cons_append]
theorem split_of {l : List MapEntry} {left : AL Value} (h : l.map kv = left.map sv) {a1 a2 : List MapEntry} {e : MapEntry} (he : l = a1 ++ e :: a2) :
    ∃ l1 p l2, left = l1 ++ p :: l2 ∧ (a1 ++ a2).map kv = (l1 ++ l2).map sv ∧ e.key = .string p.1 ∧ e.val = p.2 := by
  subst he
  induction a1 generalizing left with
  | nil =>
    cases left with
    | nil => simp at h
    | cons p left =>
      simp only [List.nil_append, List.map_cons, List.cons.injEq] at h
      refine ⟨[], p, left, rfl, h.2, ?_, ?_⟩
      · exact congrArg Prod.fst h.1
      · exact congrArg Prod.snd h.1
  | cons y a1 ih =>
    cases left with
    | nil => simp at h
    | cons p left =>
      simp only [List.cons_append, List.map_cons, List.cons.injEq] at h
      obtain ⟨l1, q, l2, e1, e2, e3⟩ := ih h.2
      refine ⟨p :: l1, q, l2, by rw [e1]; rfl, ?_, e3⟩
      rw [List.cons_append, List.cons_append, List.map_cons, List.map_cons, h.1, e2]
theorem MapIt.next {P : Program} {w : World} {b r : Nat} {left : AL Value} (h : MapIt w b r left) (ty : TypeId) :
    (left = [] ∧ (Instr.next (.pointer (some ⟨r, 0, none⟩)) false ty).run P w = .ok (.tuple #[.bool false]) w) ∨
    ∃ l1 p l2 w', left = l1 ++ p :: l2 ∧ (Instr.next (.pointer (some ⟨r, 0, none⟩)) false ty).run P w = .ok (.tuple #[.bool true, .string p.1, p.2]) w' ∧ MapIt w' b r (l1 ++ l2) ∧
      Only (fun k => k = r) w w' ∧ (Instr.entry (.pointer (some ⟨r, 0, none⟩))).run P w' = .ok (.tuple #[.string p.1, p.2]) w' := by
  have hne := h.ne
  obtain ⟨es, clock, since, seen, c0, hb, hst, hr, hold, hsc, hsk, hl⟩ := h
  rcases run_next_at (P := P) w ty r b since c0 seen es clock hr hb hold hsc with ⟨h0, hrun⟩ | ⟨e, he, w1, hal, hrun⟩
  · refine .inl ⟨?_, hrun⟩
    have := congrArg List.length hl
    simp only [List.length_map, Array.length_toList, h0] at this
    exact List.eq_nil_of_length_eq_zero this.symm
  · have hem := (mem_left he).1
    obtain ⟨a1, a2, ha⟩ := List.append_of_mem he
    obtain ⟨l1, p, l2, e1, e2, e3, e4⟩ := split_of hl ha
    have hst3 := (stamped_iff es clock).1 hst
    have hr1 : w1.heap[r]? = some (.mapIter (some b) since seen c0) := by rcases hal with rfl | rfl <;> exact hr
    have hb1 : w1.heap[b]? = some (.map es clock) := by rcases hal with rfl | rfl <;> exact hb
    have hset := heap_set (o' := .mapIter (some b) since (seen.push e.born) clock) hr1
    have hb' : (ChangeMaps.setBlock w1 r (.mapIter (some b) since (seen.push e.born) clock)).heap[b]? = some (.map es clock) := (hset.2 b (fun e1 => hne e1.symm)).trans hb1
    have hen := run_entry_at (P := P) _ r b since seen es clock e hset.1 hb' hem hst3.2.1
    have hnd : ((leftOf es seen).toList.map (·.born)).Nodup := by
      unfold leftOf
      rw [Array.toList_filter]
      exact hst3.2.1.sublist (List.Sublist.map _ List.filter_sublist)
    have hleft : (leftOf es (seen.push e.born)).toList = a1 ++ a2 := by
      rw [ha] at hnd
      rw [← born_split hnd, ← ha]
      unfold leftOf
      rw [Array.toList_filter, Array.toList_filter, List.filter_filter]
      refine List.filter_congr (fun x _ => ?_)
      rw [contains_push, Bool.not_or, Bool.and_comm]
    rw [e3, e4] at hrun hen
    refine .inr ⟨l1, p, l2, _, e1, hrun, ⟨es, clock, since, seen.push e.born, clock, hb', hst, hset.1, hold, hsk, hsk, by rw [hleft, e2]⟩, ?_, hen⟩
    rcases hal with rfl | rfl <;> exact ⟨rfl, rfl, rfl, by simp [ChangeMaps.setBlock], fun i _ hi => hset.2 i (fun e1 => hi e1)⟩
theorem MapS.range {P : Program} {w : World} {b : Nat} {L : AL Value} (h : MapS w b L) {t k e : TypeId} (ht : P.underlying t = some (.map k e)) :
    ∃ w', (Instr.range t (.map (some b))).run P w = .ok (.pointer (some ⟨w.heap.size, 0, none⟩)) w' ∧ MapIt w' b w.heap.size L ∧ Below w.heap.size w w' ∧ w'.heap.size = w.heap.size + 1 := by
  have hlt := h.lt
  obtain ⟨es, clock, hb, hst, hL, _⟩ := h
  have hst3 := (stamped_iff es clock).1 hst
  refine ⟨_, run_range_map w t k e b es clock ht hb, ⟨es, clock, clock, #[], clock, (heap_alloc_old w _ hlt).trans hb, hst, heap_alloc_new w _, hst3.1, Nat.le_refl _, Nat.le_refl _, ?_⟩, (Below.refl _ _).alloc (Nat.le_refl _) _, by simp⟩
  rw [← hL]
  congr 1
  unfold leftOf
  rw [Array.toList_filter, List.filter_eq_self]
  simp
section
variable {P : Program} (w : World) {ops : Array Oper} {rest : List Oper} {o : Oper} {a : Act} {Q : Exit → Act → World → Prop}
theorem wpList_mrange (hg : o.guard = none) (m : Operand) (t : TypeId) (hop : o.op = Op.range t m) (k e : TypeId) (ht : P.underlying t = some (.map k e)) (b : Nat) (L : AL Value) (hm : a.eval m = .map (some b)) (h : MapS w b L)
    (hK : ∀ w', MapIt w' b w.heap.size L → Below w.heap.size w w' → w'.heap.size = w.heap.size + 1 → wpList P ops Q rest (a.put o.dst (.pointer (some ⟨w.heap.size, 0, none⟩))) w') : wpList P ops Q (o :: rest) a w := by
  refine wpList_plain hg fun K' hK' => ?_
  obtain ⟨w', hrun, r1, r2, r3⟩ := h.range (P := P) ht
  unfold Oper.wp
  simp [execOp, hop, hm, hrun, Result.andThen]
  exact hK' _ _ (hK w' r1 r2 r3)
theorem wpList_mnext (hg : o.guard = none) (it : Operand) (hop : o.op = Op.next it false) (b r : Nat) (left : AL Value) (hit : a.eval it = .pointer (some ⟨r, 0, none⟩)) (h : MapIt w b r left)
    (hDone : left = [] → wpList P ops Q rest (a.put o.dst (.tuple #[.bool false])) w)
    (hMore : ∀ l1 n v l2 w', left = l1 ++ (n, v) :: l2 → MapIt w' b r (l1 ++ l2) → Only (fun k => k = r) w w' → (Instr.entry (.pointer (some ⟨r, 0, none⟩))).run P w' = .ok (.tuple #[.string n, v]) w' →
      wpList P ops Q rest (a.put o.dst (.tuple #[.bool true, .string n, v])) w') : wpList P ops Q (o :: rest) a w := by
  refine wpList_plain hg fun K' hK' => ?_
  unfold Oper.wp
  rcases h.next (P := P) o.type with ⟨h0, hrun⟩ | ⟨l1, p, l2, w', e1, hrun, r1, r2, r3⟩
  · simp [execOp, hop, hit, hrun, Result.andThen]
    exact hK' _ _ (hDone h0)
  · obtain ⟨n, v⟩ := p
    simp [execOp, hop, hit, hrun, Result.andThen]
    exact hK' _ _ (hMore l1 n v l2 w' e1 r1 r2 r3)
/-- a look-up that finds -/
theorem wpList_lk (hg : o.guard = none) (m x : Operand) (t : TypeId) (c : Bool) (hop : o.op = Op.lookup t m x c) (k e : TypeId) (ht : P.underlying t = some (.map k e)) (hk : P.underlying k = some .string)
    (z : Value) (hz : (zeroValue e).run P w = .ok z w) (b : Nat) (L : AL Value) (hm : a.eval m = .map (some b)) (h : MapS w b L) (s : ByteArray) (hx : a.eval x = .string s) (hs : s.size ≤ maxLen)
    (v : Value) (hv : AL.get L s = some v) (hK : wpList P ops Q rest (a.put o.dst (if c then .tuple #[v, .bool true] else v)) w) : wpList P ops Q (o :: rest) a w := by
  refine wpList_look w hg m x t c hop k e ht hk z hz b L hm h s hx hs ?_
  unfold looked
  rw [hv]
  exact hK
/-- a look-up that doesn't -/
theorem wpList_lkno (hg : o.guard = none) (m x : Operand) (t : TypeId) (c : Bool) (hop : o.op = Op.lookup t m x c) (k e : TypeId) (ht : P.underlying t = some (.map k e)) (hk : P.underlying k = some .string)
    (z : Value) (hz : (zeroValue e).run P w = .ok z w) (b : Nat) (L : AL Value) (hm : a.eval m = .map (some b)) (h : MapS w b L) (s : ByteArray) (hx : a.eval x = .string s) (hs : s.size ≤ maxLen)
    (hv : AL.get L s = none) (hK : wpList P ops Q rest (a.put o.dst (if c then .tuple #[z, .bool false] else z)) w) : wpList P ops Q (o :: rest) a w := by
  refine wpList_look w hg m x t c hop k e ht hk z hz b L hm h s hx hs ?_
  unfold looked
  rw [hv]
  exact hK
/-- the run of a look-up, in whatever world of draws -/
theorem MapS.lookD {b : Nat} {L : AL Value} (h : MapS w b L) {t k e : TypeId} (ht : P.underlying t = some (.map k e)) (hk : P.underlying k = some .string) {z : Value} (hz : ∀ w, (zeroValue e).run P w = .ok z w) {s : ByteArray} (hs : s.size ≤ maxLen) {v : Value} (hv : AL.get L s = some v) (q : Nat) :
    (Instr.lookup t (.map (some b)) (.string s) false).run P (w.drewN q) = .ok v (w.drewN q) := by
  have := MapS.look (w := w.drewN q) (P := P) (b := b) (L := L) h ht hk (hz _) hs false
  unfold looked at this
  rw [hv] at this
  exact this
end
end Go.Proofs.YtlhaempecidohaaGreatDoor
