/-
  Texts and bytes: conversions, and an append of a text. Texts: the byte at an index; cuts.
-/
import Derived.Laws.IdiomStrings
import Derived.Laws.BytesString
import Derived.Lib.BufferRead
import Derived.Lib.AppendStr
import Derived.Test.YtlhaempecidohaaGreatDoorJad
set_option linter.unusedSimpArgs false
set_option linter.unusedVariables false
namespace Go.Proofs.YtlhaempecidohaaGreatDoor
open Go.RowKit
def str (l : List Nat) : ByteArray := ⟨(l.map UInt8.ofNat).toArray⟩
def ofStr (s : ByteArray) : List Nat := s.data.toList.map UInt8.toNat
theorem ofStr_lt (s : ByteArray) : ∀ x ∈ ofStr s, x < 256 := by
  intro x hx
  simp only [ofStr, List.mem_map] at hx
  obtain ⟨u, _, rfl⟩ := hx
  exact u.toNat_lt
theorem ofStr_length (s : ByteArray) : (ofStr s).length = s.size := by rw [ofStr, List.length_map, Array.length_toList]; rfl
theorem str_size (l : List Nat) : (str l).size = l.length := by show (l.map UInt8.ofNat).toArray.size = _; rw [List.size_toArray, List.length_map]
theorem ofStr_str {l : List Nat} (h : ∀ x ∈ l, x < 256) : ofStr (str l) = l := by
  simp only [ofStr, str, List.map_map]
  rw [List.map_congr_left (g := id)]
  · simp
  · intro x hx
    simp only [Function.comp, id, UInt8.toNat_ofNat']
    exact Nat.mod_eq_of_lt (h x hx)
theorem str_ofStr (s : ByteArray) : str (ofStr s) = s := by
  obtain ⟨⟨l⟩⟩ := s
  simp [str, ofStr, Function.comp_def]
theorem str_inj {a b : List Nat} (ha : ∀ x ∈ a, x < 256) (hb : ∀ x ∈ b, x < 256) (h : str a = str b) : a = b := by
  rw [← ofStr_str ha, ← ofStr_str hb, h]
theorem str_toList (l : List Nat) : (str l).toList = l.map UInt8.ofNat := by rw [ByteArray.toList_eq]; simp [str]
theorem str_ne {a b : List Nat} (ha : ∀ x ∈ a, x < 256) (hb : ∀ x ∈ b, x < 256) (h : a ≠ b) : ((str a).toList == (str b).toList) = false := by
  rw [beq_eq_false_iff_ne]
  intro e
  refine h (str_inj ha hb ?_)
  rw [ByteArray.toList_eq, ByteArray.toList_eq] at e
  have : (str a).data = (str b).data := Array.toList_inj.1 e
  cases ha' : str a
  cases hb' : str b
  rw [ha', hb'] at this
  simp only at this
  rw [this]
/-- string(b) -/
theorem conv_rb {w : World} {A : Option Addr} {n : Nat} {l : List Nat} (h : RB w A n l) (c : Nat) : (convert 23 9 (.slice A n c)).run Tryz.prog w = .ok (.string (str l)) w := by
  obtain ⟨h1, h2, h3⟩ := h
  rcases A with _ | ad
  · have h0 : n = 0 := by
      rcases Nat.eq_zero_or_pos n with h0 | h0
      · exact h0
      · obtain ⟨ad, e, _⟩ := h3 h0
        cases e
    subst h0
    obtain rfl : l = [] := List.eq_nil_of_length_eq_zero h1
    rw [run_convert_bytes_string w 23 9 5 _ _ _ Tryz.underlying23 Tryz.underlying5 Tryz.underlying9]
    simp [Conv.bytesToString, str, Sem.run_pure]
    rfl
  · have hc : ∀ j (hj : j < (l.map UInt8.ofNat).length), w.cell? (ad.add j) = some (.int .u8 ((l.map UInt8.ofNat)[j].toNat : Int)) := by
      intro j hj
      have hjl : j < l.length := by simpa using hj
      obtain ⟨ad', e, hcell⟩ := h3 (by omega)
      injection e with e
      subst e
      rw [hcell j l[j] (List.getElem?_eq_getElem hjl)]
      have := h2 l[j] (List.getElem_mem hjl)
      simp only [List.getElem_map, UInt8.toNat_ofNat', show 2 ^ 8 = 256 from rfl]
      rw [Nat.mod_eq_of_lt this]
    have := run_convert_bytes_back (P := Tryz.prog) w 23 9 5 ad c (l.map UInt8.ofNat) Tryz.underlying23 Tryz.underlying5 Tryz.underlying9 hc
    rw [List.length_map, h1] at this
    exact this
/-- []byte(s) -/
def bcap (w : World) (s : ByteArray) : Nat := grownCap w s.size 0 5
def bobj (w : World) (s : ByteArray) : Obj := .cells (bytesRow s (bcap w s)) 5 ((bytesRow s (bcap w s)).size, (bytesRow s (bcap w s)).size + 1)
theorem run_bytes (s : ByteArray) (w : World) : (convert 9 23 (.string s)).run Tryz.prog w = .ok (.slice (some ⟨w.heap.size, 0, none⟩) s.size (bcap w s)) (w.drew.alloc (bobj w s)) :=
  run_bytes_of_string w 9 23 5 s Tryz.underlying9 Tryz.underlying23 Tryz.underlying5
theorem RB.bytes (w w0 : World) (s : ByteArray) : RB (w.alloc (bobj w0 s)) (some ⟨w.heap.size, 0, none⟩) s.size (ofStr s) := by
  refine ⟨ofStr_length s, ofStr_lt s, fun _ => ⟨_, rfl, fun j x hj => ?_⟩⟩
  have e2 : (⟨w.heap.size, 0, none⟩ : Addr).add j = ⟨w.heap.size, j, none⟩ := by
    by_cases h0 : j = 0
    · subst h0; rfl
    · simp [Addr.add, h0]
  rw [e2, bobj, World.cell?_alloc_mark]
  have hjl : j < s.data.size := by
    have := (List.getElem?_eq_some_iff.1 hj).1
    rw [ofStr_length] at this
    exact this
  simp only [ofStr, List.getElem?_map, Array.getElem?_toList, Option.map_eq_some_iff] at hj
  obtain ⟨u, hu, rfl⟩ := hj
  rw [bytesRow, Array.getElem?_append_left (by simpa using hjl), Array.getElem?_map, hu]
  rfl
theorem strCells_bv (s : ByteArray) : Lib.strCells s = bv (ofStr s) := by
  simp [Lib.strCells, bv, ofStr, Function.comp_def]
theorem wpList_append_str {w : World} {ops : Array Oper} {rest : List Oper} {o : Oper} {a : Act} {Q : Exit → Act → World → Prop} (hgd : o.guard = none) (s x : Operand)
    (ho : o.op = .call { callee := .builtin .append, args := #[s, x], argTypes := #[23, 9] })
    {base : Nat} {A : Option Addr} {n c : Nat} {l : List Nat} {t : ByteArray}
    (hs : a.eval s = .slice A n c) (hx : a.eval x = .string t) (hown : Own w base A n c l) (hlen : n + t.size ≤ 20000000) (hbase : base ≤ w.heap.size)
    (h : ∀ A' c' w', Own w' base A' (n + t.size) c' (l ++ ofStr t) → Only (fun k => blk A = some k) w w' → wpList Tryz.prog ops Q rest (a.put o.dst (.slice A' (n + t.size) c')) w') :
    wpList Tryz.prog ops Q (o :: rest) a w := by
  obtain ⟨i, hi, hz0, hz1, hz2⟩ := info_parts Tryz.info5
  refine Lib.wpList_append_own_string w hgd s x 23 9 ho base 5 i Tryz.underlying23 Tryz.underlying9 hi hz0 hz1 hz2 _ n _ hs hown.2.2 t hx (by unfold maxLen; omega) (by omega) hbase ?_
  intro v' w' h1 h2 _
  rw [strCells_bv, ← bv_append] at h1
  rw [ownBlock_slice] at h2
  have hex : ∃ A' c', v' = .slice A' (n + t.size) c' := by
    rcases h1.2 with ⟨hv, h0⟩ | ⟨g, cap, cur, hv, _⟩
    · exact ⟨none, 0, by rw [hv, h0]⟩
    · exact ⟨_, _, hv⟩
  obtain ⟨A', c', hv⟩ := hex
  subst hv
  refine h A' c' w' ⟨by rw [List.length_append, hown.1, ofStr_length], ?_, h1⟩ (Only.of_grown h2 (fun k hk => hk))
  intro x hx
  rcases List.mem_append.1 hx with h | h
  · exact hown.2.1 x h
  · exact ofStr_lt t x h
end Go.Proofs.YtlhaempecidohaaGreatDoor
namespace Go.Proofs.YtlhaempecidohaaGreatDoor
open Go.RowKit
theorem ofStr_at (s : ByteArray) (k : Nat) (h : k < s.size) : ∃ x, (ofStr s)[k]? = some x ∧ x < 256 ∧ ∀ w : World, (Instr.index 9 (.string s) (.int .i64 (k : Int))).run Tryz.prog w = .ok (.int .u8 (x : Int)) w := by
  have hd : k < s.data.size := h
  refine ⟨s.data[k].toNat, ?_, s.data[k].toNat_lt, fun w => ?_⟩
  · rw [ofStr, List.getElem?_map, Array.getElem?_toList, Array.getElem?_eq_getElem hd]
    rfl
  · rw [run_index_string w 9 s .i64 (k : Int) Tryz.underlying9, dif_pos ⟨by omega, by omega⟩]
    rfl
theorem str_append (a b : List Nat) : str a ++ str b = str (a ++ b) := by
  apply ByteArray.ext
  simp [str]
theorem str_extract (l : List Nat) (a b : Nat) : (str l).extract a b = str ((l.take b).drop a) := by
  apply ByteArray.ext
  rw [ByteArray.data_extract]
  apply Array.toList_inj.1
  simp [str, List.drop_take]
end Go.Proofs.YtlhaempecidohaaGreatDoor
