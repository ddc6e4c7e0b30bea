/-
  The runs that came in: what they read as.
-/
import Derived.Deep.Slices
import Derived.Lib.SmallJoins
import Derived.OpenShut
import Derived.SizedLaws
import Derived.Test.YtlhaempecidohaaGreatDoorJbu
set_option linter.unusedSimpArgs false
set_option linter.unusedVariables false
namespace Go.Proofs.YtlhaempecidohaaGreatDoor
open Go.RowKit
open Go.ChangeShapes Go.WideShapes Go.ChangeAt
noncomputable def fieldsOf (t : TypeId) : Option (List (TypeId × Nat)) := (Tryz.prog.underlying t).bind fun d => match d with | .struct fs => some (fs.toList.map (fun f => (f.type, f.offset))) | _ => none
theorem fields42 : fieldsOf 42 = some [(39, 0), (4, 11), (5, 12), (40, 13)] := by kernel_rfl
theorem fields39 : fieldsOf 39 = some [(5, 0), (9, 1), (9, 2), (37, 3), (31, 7), (3, 8), (3, 9), (4, 10)] := by kernel_rfl
theorem fields37 : fieldsOf 37 = some [(35, 0), (2, 1), (3, 2), (23, 3)] := by kernel_rfl
theorem und_fields {t : TypeId} {l : List (TypeId × Nat)} (h : fieldsOf t = some l) : ∃ fs : List Field, Tryz.prog.underlying t = some (.struct fs.toArray) ∧ fs.map (fun f => (f.type, f.offset)) = l := by
  unfold fieldsOf at h
  cases hu : Tryz.prog.underlying t with
  | none => rw [hu] at h; cases h
  | some d =>
    rw [hu] at h
    cases d
    case struct fs =>
      obtain ⟨fs⟩ := fs
      exact ⟨fs, rfl, by simpa using h⟩
    all_goals simp at h
theorem weightsAll_mem {H : Type} {P : Program} {e : TypeId} : ∀ {l : List (DataW H)} {d : DataW H}, d ∈ l → ∀ n ∈ d.weights P e, n ∈ DataW.weightsAll P e l
  | d' :: r, d, hd, n, hn => by
    simp only [DataW.weightsAll, List.mem_append]
    rcases List.mem_cons.1 hd with rfl | h
    · exact Or.inl hn
    · exact Or.inr (weightsAll_mem h n hn)
theorem weightsEach_mem {H : Type} {P : Program} : ∀ {ts : List TypeId} {l : List (DataW H)} {i : Nat} {t : TypeId} {d : DataW H}, ts[i]? = some t → l[i]? = some d → ∀ n ∈ d.weights P t, n ∈ DataW.weightsEach P ts l
  | t' :: ts, d' :: r, 0, t, d, ht, hd, n, hn => by
    cases ht; cases hd
    simp only [DataW.weightsEach, List.mem_append]
    exact .inl hn
  | t' :: ts, d' :: r, i + 1, t, d, ht, hd, n, hn => by
    simp only [DataW.weightsEach, List.mem_append]
    exact .inr (weightsEach_mem (i := i) ht hd n hn)
section
variable {H : Type} {enc : TypeId × Value → H} {w : World} {base : Nat} {held : Bool}
/-- a struct, opened: each field reads by itself; its weights are among the struct's -/
theorem open_struct {t : TypeId} {l : List (TypeId × Nat)} (hl : fieldsOf t = some l) {fuel : Nat} {cs : List Value} {x : DataW H × List MemPlace} (h : DataW.trod enc Tryz.prog w base (fun _ => true) held fuel t cs = some x) :
    ∃ n, cs.length = Tryz.prog.cellsOf t ∧ ∀ (i : Nat) (ty : TypeId) (off : Nat), l[i]? = some (ty, off) → ∃ y, DataW.trod enc Tryz.prog w base (fun _ => true) held n ty ((cs.drop off).take (Tryz.prog.cellsOf ty)) = some y ∧ ∀ m ∈ y.1.weights Tryz.prog ty, m ∈ x.1.weights Tryz.prog t := by
  obtain ⟨fs, hu, hfs⟩ := und_fields hl
  obtain ⟨xs, n, -, rfl, hcl, hlen, hf⟩ := DataW.trod_struct hu h
  refine ⟨n, hcl, fun i ty off hi => ?_⟩
  rw [← hfs, List.getElem?_map] at hi
  cases hfi : fs[i]? with
  | none => rw [hfi] at hi; cases hi
  | some f =>
    rw [hfi] at hi
    simp only [Option.map_some, Option.some.injEq, Prod.mk.injEq] at hi
    obtain ⟨rfl, rfl⟩ := hi
    have h1 := hf i f (by simpa using hfi)
    have hil : i < xs.length := by rw [hlen]; have := (List.getElem?_eq_some_iff.1 hfi).1; simpa using this
    rw [List.getElem?_eq_getElem hil] at h1
    refine ⟨xs[i], h1, fun m hm => ?_⟩
    simp only [DataW.weights, hu]
    refine weightsEach_mem (i := i) (t := f.type) (d := xs[i].1) ?_ ?_ m hm
    · rw [List.getElem?_map]; simp [hfi]
    · rw [List.getElem?_map, List.getElem?_eq_getElem hil]; rfl
theorem und35 : Tryz.prog.underlying 35 = some (.int .u32) := by kernel_rfl
theorem und2 : Tryz.prog.underlying 2 = some (.int .i64) := by kernel_rfl
theorem und3 : Tryz.prog.underlying 3 = some (.int .i64) := by kernel_rfl
theorem und4b : Tryz.prog.underlying 4 = some .bool := by kernel_rfl
theorem und9s : Tryz.prog.underlying 9 = some .string := by kernel_rfl
/-- a slice of numbers, opened -/
theorem open_nums {t e : TypeId} {k : IntKind} {b : Nat} (ht : Tryz.prog.underlying t = some (.slice e)) (he : Tryz.prog.underlying e = some (.int k)) (hc : Tryz.prog.cellsOf e = 1) (hb : Tryz.prog.bytesOf e = b) (hb1 : 1 ≤ b) {fuel : Nat} {cs : List Value} {x : DataW H × List MemPlace}
    (h : DataW.trod enc Tryz.prog w base (fun _ => true) held fuel t cs = some x) (hw : ∀ m ∈ x.1.weights Tryz.prog t, m ≤ reachBytes) :
    ∃ (a : Option Addr) (len cap : Nat) (zs : List Int), cs = [.slice a len cap] ∧ len ≤ cap ∧ zs.length = len ∧ len ≤ 140737488355328 ∧ (∀ z ∈ zs, (Lit.int k z).wf = true) ∧ (0 < len → ∃ ad, a = some ad ∧ ∀ i z, zs[i]? = some z → w.cell? (ad.add i) = some (.int k z)) := by
  rcases open_ints ht he hc h with ⟨rfl, -⟩ | ⟨a, len, cap, zs, rfl, -, h1, h2, h3, h4, h5, h6⟩
  · exact ⟨none, 0, 0, [], rfl, Nat.le_refl _, rfl, by omega, by simp, fun h => absurd h (by omega)⟩
  · simp only [if_true] at h3
    have hw1 := hw ((lits (H := H) k (zs.take len)).length * b + (lits (H := H) k (zs.drop len)).length * b) (by
      rw [h4]
      simp only [DataW.weights, ht, hb]
      rw [← Nat.add_mul]
      exact List.mem_cons_self ..)
    have hll : (lits (H := H) k (zs.take len)).length = len := by simp [lits]; omega
    have hr := reachBytes_lt
    refine ⟨some a, len, cap, zs.take len, rfl, h1, by simp; omega, ?_, fun z hz => h6 z (List.mem_of_mem_take hz), fun _ => ⟨a, rfl, fun i z hz => ?_⟩⟩
    · rw [hll] at hw1
      have : len * 1 ≤ len * b := Nat.mul_le_mul_left _ hb1
      omega
    · have hi : i < len := by have := (List.getElem?_eq_some_iff.1 hz).1; simp at this; omega
      have h7 := h5 i (by omega)
      rw [List.getElem?_take_of_lt hi] at hz
      rw [List.getD_eq_getElem?_getD, hz] at h7
      exact h7
end
theorem wf_u8 {z : Int} (h : (Lit.int .u8 z).wf = true) : 0 ≤ z ∧ z < 256 := by
  simp [Lit.wf, IntKind.min, IntKind.max, IntKind.signed, IntKind.bits] at h
  omega
theorem wf_u32 {z : Int} (h : (Lit.int .u32 z).wf = true) : 0 ≤ z ∧ z < 4294967296 := by
  simp [Lit.wf, IntKind.min, IntKind.max, IntKind.signed, IntKind.bits] at h
  omega
theorem wf_i64 {z : Int} (h : (Lit.int .i64 z).wf = true) : -9223372036854775808 ≤ z ∧ z ≤ 9223372036854775807 := by
  simp [Lit.wf, IntKind.min, IntKind.max, IntKind.signed, IntKind.bits] at h
  omega
theorem RB.of_nums {w : World} {a : Option Addr} {len : Nat} {zs : List Int} (hl : zs.length = len) (hz : ∀ z ∈ zs, (Lit.int .u8 z).wf = true) (hc : 0 < len → ∃ ad, a = some ad ∧ ∀ i z, zs[i]? = some z → w.cell? (ad.add i) = some (.int .u8 z)) : RB w a len (zs.map Int.toNat) := by
  refine ⟨by rw [List.length_map, hl], fun x hx => ?_, fun h0 => ?_⟩
  · obtain ⟨z, hz', rfl⟩ := List.mem_map.1 hx
    have := wf_u8 (hz z hz')
    omega
  · obtain ⟨ad, e, hcell⟩ := hc h0
    refine ⟨ad, e, fun j x hx => ?_⟩
    rw [List.getElem?_map] at hx
    cases hj : zs[j]? with
    | none => rw [hj] at hx; cases hx
    | some z =>
      rw [hj] at hx
      injection hx with hx
      have h1 := wf_u8 (hz z (List.mem_of_getElem? hj))
      rw [hcell j z hj, ← hx]
      congr 2
      omega
theorem UR.of_nums {w : World} {a : Option Addr} {len : Nat} {zs : List Int} (hl : zs.length = len) (hz : ∀ z ∈ zs, (Lit.int .u32 z).wf = true) (hc : 0 < len → ∃ ad, a = some ad ∧ ∀ i z, zs[i]? = some z → w.cell? (ad.add i) = some (.int .u32 z)) : UR w a len (zs.map Int.toNat) := by
  refine ⟨by rw [List.length_map, hl], fun x hx => ?_, fun h0 => ?_⟩
  · obtain ⟨z, hz', rfl⟩ := List.mem_map.1 hx
    have := wf_u32 (hz z hz')
    omega
  · obtain ⟨ad, e, hcell⟩ := hc h0
    refine ⟨ad, e, fun j x hx => ?_⟩
    rw [List.getElem?_map] at hx
    cases hj : zs[j]? with
    | none => rw [hj] at hx; cases hx
    | some z =>
      rw [hj] at hx
      injection hx with hx
      have h1 := wf_u32 (hz z (List.mem_of_getElem? hj))
      rw [hcell j z hj, ← hx]
      congr 2
      omega
theorem k5 : Tryz.prog.cellsOf 5 = 1 := by kernel_rfl
theorem k9 : Tryz.prog.cellsOf 9 = 1 := by kernel_rfl
theorem k2 : Tryz.prog.cellsOf 2 = 1 := by kernel_rfl
theorem k3 : Tryz.prog.cellsOf 3 = 1 := by kernel_rfl
theorem k4 : Tryz.prog.cellsOf 4 = 1 := by kernel_rfl
theorem k35 : Tryz.prog.cellsOf 35 = 1 := by kernel_rfl
theorem k23 : Tryz.prog.cellsOf 23 = 1 := by kernel_rfl
theorem k31 : Tryz.prog.cellsOf 31 = 1 := by kernel_rfl
theorem k40 : Tryz.prog.cellsOf 40 = 1 := by kernel_rfl
theorem k37 : Tryz.prog.cellsOf 37 = 4 := by kernel_rfl
theorem k39 : Tryz.prog.cellsOf 39 = 11 := by kernel_rfl
theorem k42 : Tryz.prog.cellsOf 42 = 14 := by kernel_rfl
theorem b5 : Tryz.prog.bytesOf 5 = 1 := by kernel_rfl
theorem b35 : Tryz.prog.bytesOf 35 = 4 := by kernel_rfl
theorem b3 : Tryz.prog.bytesOf 3 = 8 := by kernel_rfl
theorem b42 : Tryz.prog.bytesOf 42 = 168 := by kernel_rfl
section
variable {H : Type} {enc : TypeId × Value → H} {w : World} {base : Nat} {held : Bool}
set_option maxRecDepth 100000 in
theorem open_msg {fuel : Nat} {cs : List Value} {x : DataW H × List MemPlace} (h : DataW.trod enc Tryz.prog w base (fun _ => true) held fuel 37 cs = some x) (hw : ∀ m ∈ x.1.weights Tryz.prog 37, m ≤ reachBytes) :
    ∃ (y : Msg) (A : Option Addr) (k d : Nat), cs = msgCells y (.slice A k d) ∧ RB w A k y.oct ∧ k ≤ d ∧ k ≤ 140737488355328 ∧ -9223372036854775808 ≤ y.date ∧ y.date ≤ 9223372036854775807 := by
  obtain ⟨n, hl, hf⟩ := open_struct fields37 h
  rw [k37] at hl
  match cs, hl with
  | [v0, v1, v2, v3], _ =>
    obtain ⟨y0, g0, -⟩ := hf 0 35 0 rfl
    obtain ⟨y1, g1, -⟩ := hf 1 2 1 rfl
    obtain ⟨y2, g2, -⟩ := hf 2 3 2 rfl
    obtain ⟨y3, g3, w3⟩ := hf 3 23 3 rfl
    rw [k35] at g0
    rw [k2] at g1
    rw [k3] at g2
    rw [k23] at g3
    obtain ⟨n0, e0, -, wf0⟩ := DataW.trod_int und35 g0
    obtain ⟨n1, e1, -, wf1⟩ := DataW.trod_int und2 g1
    obtain ⟨n2, e2, -, wf2⟩ := DataW.trod_int und3 g2
    obtain ⟨a, len, cap, zs, e3, h1, h2, h3, h4, h5⟩ := open_nums Tryz.underlying23 Tryz.underlying5 k5 b5 (Nat.le_refl _) g3 (fun m hm => hw m (w3 m hm))
    simp at e0 e1 e2 e3
    subst e0 e1 e2 e3
    have q0 := wf_u32 wf0
    have q1 := wf_i64 wf1
    refine ⟨⟨n0.toNat, n1, n2, zs.map Int.toNat⟩, a, len, cap, ?_, RB.of_nums h2 h4 h5, h1, h3, q1.1, q1.2⟩
    unfold msgCells
    have : ((n0.toNat : Nat) : Int) = n0 := by omega
    simp [this]
set_option maxRecDepth 100000 in
theorem open_text {fuel : Nat} {v : Value} {x : DataW H × List MemPlace} (h : DataW.trod enc Tryz.prog w base (fun _ => true) held fuel 9 [v] = some x) (hw : ∀ m ∈ x.1.weights Tryz.prog 9, m ≤ reachBytes) :
    ∃ s : ByteArray, v = .string s ∧ s.size ≤ 140737488355328 := by
  obtain ⟨s, e, hx, -⟩ := DataW.trod_string und9s h
  simp at e
  refine ⟨s, e, ?_⟩
  have h1 := hw s.data.toList.length (by rw [hx]; exact List.mem_singleton.2 rfl)
  have h2 := reachBytes_lt
  have h3 : s.data.toList.length = s.size := by show s.data.toList.length = s.data.size; exact Array.length_toList
  omega
set_option maxRecDepth 100000 in
theorem open_op {fuel : Nat} {cs : List Value} {x : DataW H × List MemPlace} (h : DataW.trod enc Tryz.prog w base (fun _ => true) held fuel 39 cs = some x) (hw : ∀ m ∈ x.1.weights Tryz.prog 39, m ≤ reachBytes) :
    ∃ (o : OpS) (A : Option Addr) (k d : Nat) (U : Option Addr) (un uc : Nat), cs = opCells o (.slice A k d) (.slice U un uc) ∧ OpR w o A k d U un uc ∧ o.name.size ≤ 140737488355328 ∧ o.to_.size ≤ 140737488355328 ∧ o.msg.oct.length ≤ 140737488355328 ∧ o.us.length ≤ 140737488355328 := by
  obtain ⟨n, hl, hf⟩ := open_struct fields39 h
  rw [k39] at hl
  match cs, hl with
  | [v0, v1, v2, v3, v4, v5, v6, v7, v8, v9, v10], _ =>
    obtain ⟨y0, g0, -⟩ := hf 0 5 0 rfl
    obtain ⟨y1, g1, w1⟩ := hf 1 9 1 rfl
    obtain ⟨y2, g2, w2⟩ := hf 2 9 2 rfl
    obtain ⟨y3, g3, w3⟩ := hf 3 37 3 rfl
    obtain ⟨y4, g4, w4⟩ := hf 4 31 7 rfl
    obtain ⟨y5, g5, -⟩ := hf 5 3 8 rfl
    obtain ⟨y6, g6, -⟩ := hf 6 3 9 rfl
    obtain ⟨y7, g7, -⟩ := hf 7 4 10 rfl
    rw [k5] at g0
    rw [k9] at g1 g2
    rw [k37] at g3
    rw [k31] at g4
    rw [k3] at g5 g6
    rw [k4] at g7
    obtain ⟨n0, e0, -, wf0⟩ := DataW.trod_int Tryz.underlying5 g0
    obtain ⟨s1, e1, z1⟩ := open_text g1 (fun m hm => hw m (w1 m hm))
    obtain ⟨s2, e2, z2⟩ := open_text g2 (fun m hm => hw m (w2 m hm))
    obtain ⟨y, A, k, d, e3, r1, r2, r3, r4, r5⟩ := open_msg g3 (fun m hm => hw m (w3 m hm))
    obtain ⟨U, un, uc, zs, e4, -, u2, u3, u4, u5⟩ := open_nums und31 und35 k35 b35 (by decide) g4 (fun m hm => hw m (w4 m hm))
    obtain ⟨n5, e5, -, -⟩ := DataW.trod_int und3 g5
    obtain ⟨n6, e6, -, -⟩ := DataW.trod_int und3 g6
    obtain ⟨b7, e7, -⟩ := DataW.trod_bool und4b g7
    simp at e0 e4 e5 e6 e7
    have e3' : [v3, v4, v5, v6] = msgCells y (.slice A k d) := by simpa using e3
    have q0 := wf_u8 wf0
    refine ⟨⟨n0.toNat, s1, s2, y, zs.map Int.toNat, n5, n6, b7⟩, A, k, d, U, un, uc, ?_, ⟨r1, r2, UR.of_nums u2 u4 u5, r4, r5⟩, z1, z2, ?_, ?_⟩
    · unfold opCells
      show _ = [.int .u8 ((n0.toNat : Nat) : Int), .string s1, .string s2] ++ msgCells y (.slice A k d) ++ [.slice U un uc, .int .i64 n5, .int .i64 n6, .bool b7]
      rw [← e3', e0, e1, e2, e4, e5, e6, e7, show ((n0.toNat : Nat) : Int) = n0 by omega]
      rfl
    · show y.oct.length ≤ _
      rw [r1.1]; exact r3
    · show (zs.map Int.toNat).length ≤ _
      rw [List.length_map, u2]; exact u3
set_option maxRecDepth 100000 in
theorem open_run {fuel : Nat} {cs : List Value} {x : DataW H × List MemPlace} (h : DataW.trod enc Tryz.prog w base (fun _ => true) held fuel 42 cs = some x) (hw : ∀ m ∈ x.1.weights Tryz.prog 42, m ≤ reachBytes) :
    ∃ o, RunR w cs o := by
  obtain ⟨n, hl, hf⟩ := open_struct fields42 h
  rw [k42] at hl
  match cs, hl with
  | [v0, v1, v2, v3, v4, v5, v6, v7, v8, v9, v10, v11, v12, v13], _ =>
    obtain ⟨y0, g0, w0⟩ := hf 0 39 0 rfl
    obtain ⟨y3, g3, w3⟩ := hf 3 40 13 rfl
    rw [k39] at g0
    rw [k40] at g3
    obtain ⟨o, A, k, d, U, un, uc, e0, r0, z1, z2, z3, z4⟩ := open_op g0 (fun m hm => hw m (w0 m hm))
    obtain ⟨KA, kn, kc, zs, e3, -⟩ := open_nums und40 und3 k3 b3 (by decide) g3 (fun m hm => hw m (w3 m hm))
    simp at e3
    have e0' : [v0, v1, v2, v3, v4, v5, v6, v7, v8, v9, v10] = opCells o (.slice A k d) (.slice U un uc) := by simpa using e0
    refine ⟨o, ⟨⟨A, k, d, U, un, uc, v11, v12, KA, kn, kc, ?_, r0⟩, z1, z2, z3, z4⟩⟩
    rw [← e0', e3]
    rfl
theorem open_runs {fuel : Nat} {cs : List Value} {x : DataW H × List MemPlace} (h : DataW.trod enc Tryz.prog w base (fun _ => true) held fuel 22 cs = some x) (hw : ∀ m ∈ x.1.weights Tryz.prog 22, m ≤ reachBytes) :
    ∃ (A : Option Addr) (n c : Nat) (os : List OpS), cs = [.slice A n c] ∧ RunsR w A n os := by
  have hr := reachBytes_lt
  rcases Go.Deep.open_slice Tryz.underlying22 h with ⟨h0, _⟩ | ⟨a, len, cap, m, n, D, Pl, rfl, hb, hl, hm, hmm, rfl, hx⟩
  · exact ⟨none, 0, 0, [], h0, rfl, by omega, by omega, fun h => absurd h (by omega)⟩
  simp only [if_true] at hmm
  have hw1 : (len + (m - len)) * 168 ≤ reachBytes := hw _ (by
    simp only [DataW.weights, Tryz.underlying22, b42]
    refine List.mem_cons.2 (.inl ?_)
    simp)
  have each : ∀ i, i < len → ∃ y : OpS × List Value, RunR w y.2 y.1 ∧ w.cells? base (a.add (i * 14)) 14 = some y.2 := by
    intro i hi
    obtain ⟨cs', h1, h2⟩ := hx i (by omega)
    rw [k42] at h1
    obtain ⟨o, ho⟩ := open_run h2 (fun q hq => hw q (by
      simp only [DataW.weights, Tryz.underlying22]
      refine List.mem_cons_of_mem _ (List.mem_append_left _ ?_)
      exact weightsAll_mem (List.mem_map.2 ⟨i, List.mem_range.2 hi, rfl⟩) q hq))
    exact ⟨(o, cs'), ho, h1⟩
  haveI : Inhabited (OpS × List Value) := ⟨(⟨0, ⟨#[]⟩, ⟨#[]⟩, default, [], 0, 0, false⟩, [])⟩
  obtain ⟨q, hq⟩ := Go.Deep.choose_lt each
  have hlen : (len + 1) * 136 ≤ 140737488355328 ∧ len ≤ 1000000000000 := by
    have : len ≤ m := by omega
    omega
  refine ⟨some a, len, cap, (List.range len).map fun i => (q i).1, rfl, by simp, hlen.2, hlen.1, fun h0 => ?_⟩
  have hc : ∀ i, i < len → ∀ j u, (q i).2[j]? = some u → w.cell? (a.add (i * 14 + j)) = some u := by
    intro i hi j u hu
    obtain ⟨_, h2, h3⟩ := World.cells?_some (hq i hi).2
    have hj : j < 14 := by have := (List.getElem?_eq_some_iff.1 hu).1; omega
    have := h3 j hj
    rw [Go.Deep.add_add] at this
    rw [this, hu]
  have h14 : ∀ i, i < len → (q i).2.length = 14 := fun i hi => (World.cells?_some (hq i hi).2).2.1
  obtain ⟨u0, hu0⟩ : ∃ u, (q 0).2[0]? = some u := ⟨_, List.getElem?_eq_getElem (by rw [h14 0 h0]; omega)⟩
  have hcell0 := hc 0 h0 0 u0 hu0
  rw [Nat.zero_mul, Nat.add_zero] at hcell0
  have h00 : a.add 0 = a := by simp [Addr.add]
  rw [h00] at hcell0
  have hsp := World.cell?_spot hcell0
  have hbl := World.block_lt_of_cell? _ _ hcell0
  obtain ⟨b, p, sp⟩ := a
  have hsp : sp = none := hsp
  subst hsp
  refine ⟨b, p, rfl, hbl, fun i o ho => ?_⟩
  rw [List.getElem?_map] at ho
  have hi : i < len := by
    by_cases hi : i < len
    · exact hi
    · rw [List.getElem?_eq_none (by simpa using Nat.le_of_not_lt hi)] at ho; cases ho
  rw [List.getElem?_range hi] at ho
  simp only [Option.map_some, Option.some.injEq] at ho
  subst ho
  refine ⟨(q i).2, (hq i hi).1, fun j u hu => ?_⟩
  have := hc i hi j u hu
  rw [Addr.add_mid] at this
  rw [Nat.add_assoc]
  exact this
end
end Go.Proofs.YtlhaempecidohaaGreatDoor
