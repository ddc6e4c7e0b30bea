/-
  Package log: behind; what is gone; slices.IndexFunc and slices.DeleteFunc of live messages. Package log: a log in the making; take lets it say what a note says. Package log: clean tells whether all live messages are of one epoch, and rise. Package index: rightIndex, rightFlags. Package index: rightFlags.
-/
import Derived.Lib.Hide
import Derived.BigQuiet
import Derived.Deep.QuietTactic
import Derived.Test.YtlhaempecidohaaGreatDoorJad
import Derived.Test.YtlhaempecidohaaGreatDoorJax
import Derived.StillTailTactics
import Derived.Deep.AppendLies
import Derived.Deep.Cut
import Derived.Test.YtlhaempecidohaaGreatDoorJag
import Derived.Test.YtlhaempecidohaaGreatDoorJak
set_option linter.unusedSimpArgs false
set_option linter.unusedVariables false
namespace Go.Proofs.YtlhaempecidohaaGreatDoor
open Go.RowKit
theorem behind_any (u : Nat) (hu : u < 4294967296) (w : World) : Calls Tryz.prog 98 #[.int .u32 (u : Int)] w fun e w' => e = .returned (.int .u32 (behind u : Nat)) ∧ w' = w := by
  by_cases h : u = 4294967295
  · subst h
    go_enter Tryz.func98, Tryz.ntmps98
    go_wp2
    go_ret
    exact ⟨rfl, rfl⟩
  · have h' : ((u : Int) == 4294967295) = false := by simp; omega
    have hw : IntKind.u32.wrap ((u : Int) + 1) = ((u + 1 : Nat) : Int) := by rw [IntKind.wrap_u32]; omega
    go_enter Tryz.func98, Tryz.ntmps98
    go_wp2
    go_ret
    unfold behind
    rw [if_neg h]
    exact ⟨by first | rfl | (simp; omega), rfl⟩
def liveCells (x : LiveS) (o : Value) : List Value := [.int .u32 (x.msg.uid : Int), .int .i64 x.msg.date, .int .i64 x.msg.flags, o, .int .u32 (x.epoch : Int), .int .i64 (x.at_ : Int)]
def goneP (ep uid : Nat) (x : LiveS) : Bool := decide (x.epoch = ep) && decide (x.msg.uid = uid)
theorem nat_beq (a b : Nat) : ((a : Int) == (b : Int)) = decide (a = b) := by
  by_cases h : a = b
  · subst h; simp
  · rw [decide_eq_false h]; simp; omega
set_option maxHeartbeats 1000000 in
theorem gone_any (ep uid gn : Nat) (x : LiveS) (o : Value) (h1 : o.oneCell' = true) (w : World) (c1 : w.cell? ⟨gn, 1, none⟩ = some (.int .u32 (ep : Int))) (c3 : w.cell? ⟨gn, 3, none⟩ = some (.int .u32 (uid : Int))) :
    Calls Tryz.prog 156 #[.agg (liveCells x o).toArray, .pointer (some ⟨gn, 0, none⟩)] w fun e w' => e = .returned (.bool (goneP ep uid x)) ∧ Below w.heap.size w w' := by
  have hb0 : Below w.heap.size w (w.alloc (.cells (liveCells x o).toArray 224)) := (Below.refl _ _).alloc (Nat.le_refl _) _
  have c1 := cell_later hb0 c1
  have c3 := cell_later hb0 c3
  have hq : goneP ep uid x = (decide (x.epoch = ep) && decide (x.msg.uid = uid)) := rfl
  have e1 := nat_beq x.epoch ep
  have e2 := nat_beq x.msg.uid uid
  unfold liveCells at c1 c3 hb0 ⊢
  have HB := Lib.hid hb0
  have HQ := Lib.hid hq
  rw [hq]
  clear hb0 hq
  cases hd1 : decide (x.epoch = ep) <;> cases hd2 : decide (x.msg.uid = uid)
  all_goals
    rw [hd1] at e1
    rw [hd2] at e2
    go_enter Tryz.func156, Tryz.ntmps156
    go_wp2
    go_ret
    exact ⟨rfl, HB.out⟩
theorem live_one (x : LiveS) (B : Option Addr) (m d : Nat) : #[Value.int .u32 (x.msg.uid : Int), .int .i64 x.msg.date, .int .i64 x.msg.flags, .slice B m d, .int .u32 (x.epoch : Int), .int .i64 (x.at_ : Int)].all (·.oneCell') = true := by simp [Value.oneCell']
/-- cells of a live message -/
def LivV (v : List Value) (x : LiveS) : Prop := ∃ B m d, v = liveCells x (.slice B m d)
theorem row224 : (Tryz.prog.underlying 224).map TypeDesc.isRow = some true := by kernel_rfl
theorem size224 : (Tryz.prog.info? 224).map (·.size) = some 6 := by kernel_rfl
theorem idx_cast (i : Nat) (h : i ≤ 10000000) : IntKind.i64.wrap ((i : Int) + 1) = ((i + 1 : Nat) : Int) := by rw [IntKind.wrap_i64]; omega
set_option maxRecDepth 8000 in
set_option maxHeartbeats 1000000 in
theorem idxLive_any (ep uid gn : Nat) (A : Option Addr) (n c : Nat) (vs : List (List Value)) (xs : List LiveS) (w : World) (hr : RowR w A n 6 vs) (hx : All2 LivV vs xs) (hn : n ≤ 10000000)
    (c1 : w.cell? ⟨gn, 1, none⟩ = some (.int .u32 (ep : Int))) (c3 : w.cell? ⟨gn, 3, none⟩ = some (.int .u32 (uid : Int))) :
    Calls Tryz.prog 209 #[.slice A n c, .func (Fn.func 156) #[] #[.pointer (some ⟨gn, 0, none⟩)]] w fun e w' =>
      ((∃ i : Nat, i < n ∧ e = .returned (.int .i64 (i : Int)) ∧ (∀ j x, j < i → xs[j]? = some x → goneP ep uid x = false) ∧ (∀ x, xs[i]? = some x → goneP ep uid x = true)) ∨ e = .returned (.int .i64 (-1)) ∧ ∀ x ∈ xs, goneP ep uid x = false) ∧ Below w.heap.size w w' := by
  have hlx : xs.length = n := by rw [← hx.length]; exact hr.len
  have HR := Lib.hid hr
  have HX := Lib.hid hx
  have H1 := Lib.hid c1
  have H3 := Lib.hid c3
  have HLX := Lib.hid hlx
  clear hr hx c1 c3 hlx
  go_enter Tryz.func209, Tryz.ntmps209
  go_wp2_with fail
  go_loopw [8] (fun v8 wr => ∃ i : Nat, i ≤ n ∧ v8 = .int .i64 (i : Int) ∧ (∀ j x, j < i → xs[j]? = some x → goneP ep uid x = false) ∧ Below w.heap.size w wr) (fun v8 _ => n - (intOf v8).toNat)
  case atStart => exact ⟨0, Nat.zero_le _, rfl, fun j x hj => by omega, Below.refl _ _⟩
  case round =>
    obtain ⟨i, hi, rfl, hno, hb⟩ := hrel
    have HNO := Lib.hid hno
    have HB := Lib.hid hb
    clear hno hb
    by_cases hlt : i < n
    · obtain ⟨g, v, rfl, hv, hvl, hc⟩ := (HR.out.below HB.out).at_ hlt
      obtain ⟨x, hxi, B, m, d, rfl⟩ := HX.out.left hv
      have hcl := gone_any ep uid gn x (.slice B m d) rfl wr (cell_later HB.out H1.out) (cell_later HB.out H3.out)
      have HC := Lib.hid hc
      have HCL := Lib.hid hcl
      have HXI := Lib.hid hxi
      clear hv hvl hc hcl hxi
      obtain ⟨d224, hu, hd⟩ := rowT row224
      have HU := Lib.hid hu
      have HD := Lib.hid hd
      clear hu hd
      cases hg : goneP ep uid x
      all_goals
        rw [hg] at HCL
        have HG := Lib.hid hg
        clear hg
        go_wp2_with (first
          | (refine wpList_load_mid rfl 224 (.tmp 14) rfl g (i * 6) rfl _ d224 HC.out HU.out HD.out size224 ?_)
          | (go_at_call 156; refine HCL.out.mono ?_; rintro e w1 ⟨rfl, hb1⟩; have HB1 := Lib.hid (HB.out.trans (hb1.mono HB.out.size)); clear hb1))
      · refine ⟨⟨i + 1, hlt, by first | rfl | (congr 1), fun j y hj hy => ?_, HB1.out⟩, by simp [intOf]; omega⟩
        by_cases hji : j = i
        · subst hji
          rw [HXI.out] at hy
          cases hy
          exact HG.out
        · exact HNO.out j y (by omega) hy
      · go_ret
        refine ⟨.inl ⟨i, hlt, rfl, HNO.out, fun y hy => ?_⟩, HB1.out⟩
        rw [HXI.out] at hy
        cases hy
        exact HG.out
    · go_wp2_with fail
      go_ret
      refine ⟨.inr ⟨rfl, fun x hx => ?_⟩, HB.out⟩
      obtain ⟨j, hj⟩ := List.mem_iff_getElem?.1 hx
      exact HNO.out j x (by have := (List.getElem?_eq_some_iff.1 hj).1; have := HLX.out; omega) hj
/-! ### What a filter leaves -/
section
variable {α : Type}
theorem filter_take_succ (p : α → Bool) (l : List α) (j : Nat) (x : α) (h : l[j]? = some x) : (l.take (j + 1)).filter p = (l.take j).filter p ++ (if p x then [x] else []) := by
  have hj := (List.getElem?_eq_some_iff.1 h)
  rw [List.take_succ_eq_append_getElem hj.1, List.filter_append, hj.2]
  congr 1
  by_cases hp : p x <;> simp [hp]
theorem filter_of_none (p : α → Bool) (l : List α) (h : ∀ x ∈ l, p x = false) : l.filter (fun x => !p x) = l := by
  rw [List.filter_eq_self]
  intro x hx
  rw [h x hx]; rfl
theorem take_none (p : α → Bool) (l : List α) (i : Nat) (h : ∀ j x, j < i → l[j]? = some x → p x = false) : (l.take i).filter (fun x => !p x) = l.take i := by
  refine filter_of_none p _ (fun x hx => ?_)
  obtain ⟨j, hj⟩ := List.mem_iff_getElem?.1 hx
  rw [List.getElem?_take] at hj
  split at hj
  · exact h j x (by assumption) hj
  · cases hj
end
section
variable {α : Type}
theorem set_take_succ (l : List α) (i : Nat) (x : α) (h : i < l.length) : (l.set i x).take (i + 1) = l.take i ++ [x] := by
  rw [List.take_succ_eq_append_getElem (by rw [List.length_set]; exact h), List.take_set_of_le (Nat.le_refl i), List.getElem_set_self]
theorem set_drop (l : List α) (i j : Nat) (x : α) (h : i < j) : (l.set i x).drop j = l.drop j := List.drop_set_of_lt h
theorem drop_get {l m : List α} {j : Nat} (h : l.drop j = m.drop j) : l[j]? = m[j]? := by
  have := congrArg (·[0]?) h
  simpa using this
theorem drop_step {l m : List α} {j : Nat} (h : l.drop j = m.drop j) : l.drop (j + 1) = m.drop (j + 1) := by rw [← List.drop_drop, h, List.drop_drop]
end
theorem z224 (w : World) : (zeroValue 224).run Tryz.prog w = .ok (.agg #[.int .u32 0, .int .i64 0, .int .i64 0, .slice none 0 0, .int .u32 0, .int .i64 0]) w := by kernel_rfl
theorem inf224 : (Tryz.prog.info? 224).map (fun i => (i.zero, i.size, i.bytes)) = some (some (.agg #[.int .u32 0, .int .i64 0, .int .i64 0, .slice none 0 0, .int .u32 0, .int .i64 0]), 6, 64) := by kernel_rfl
theorem und85 : Tryz.prog.underlying 85 = some (.slice 224) := by kernel_rfl
set_option maxRecDepth 8000 in
set_option maxHeartbeats 2000000 in
theorem delLive_any (R : List Value → LiveS → Prop) (hR : ∀ v x, R v x → LivV v x) (ep uid gn base : Nat) (A : Option Addr) (n c : Nat) (vs : List (List Value)) (xs : List LiveS) (w : World) (hr : RowO w base 224 6 A n c vs) (hx : All2 R vs xs) (hn : n ≤ 10000000)
    (c1 : w.cell? ⟨gn, 1, none⟩ = some (.int .u32 (ep : Int))) (c3 : w.cell? ⟨gn, 3, none⟩ = some (.int .u32 (uid : Int))) (hgn : blk A ≠ some gn) :
    Calls Tryz.prog 155 #[.slice A n c, .func (Fn.func 156) #[] #[.pointer (some ⟨gn, 0, none⟩)]] w fun e w' =>
      ∃ m us, e = .returned (.slice A m c) ∧ RowO w' base 224 6 A m c us ∧ All2 R us (xs.filter fun x => !goneP ep uid x) ∧ Only (fun b => blk A = some b) w w' := by
  have hI := idxLive_any ep uid gn A n c vs xs w hr.read (hx.mono hR) hn c1 c3
  have HR := Lib.hid hr
  have HX := Lib.hid hx
  have H1 := Lib.hid c1
  have H3 := Lib.hid c3
  have HI := Lib.hid hI
  have HGN := Lib.hid hgn
  have HRR := Lib.hid hR
  clear hr hx c1 c3 hI hgn hR
  go_enter Tryz.func155, Tryz.ntmps155
  go_wp2_with fail
  refine HI.out.mono ?_
  rintro e w1 ⟨⟨i0, hi0, rfl, hno, hyes⟩ | ⟨rfl, hnone⟩, hb1⟩
  · obtain ⟨g, hA⟩ := HR.out.form (by omega)
    subst hA
    have HNO := Lib.hid hno
    have HYES := Lib.hid hyes
    have HR1 := Lib.hid (HR.out.below hb1)
    have HO1 := Lib.hid (Only.of_below hb1 (fun b => b = g))
    have hne : ((i0 : Int) == -1) = false := by simp
    clear hno hyes hb1
    obtain ⟨d224, hu, hd⟩ := rowT row224
    have HU := Lib.hid hu
    have HD := Lib.hid hd
    clear hu hd
    have hnc := HR.out.le
    go_wp2_with fail
    go_loopw [5, 6] (fun v5 v6 wr => ∃ (i j : Nat) (us : List (List Value)), v5 = .int .i64 (i : Int) ∧ v6 = .int .i64 (j : Int) ∧ i < j ∧ j ≤ n ∧ RowO wr base 224 6 (some ⟨g, 0, none⟩) n c us ∧ All2 R (us.take i) ((xs.take j).filter fun x => !goneP ep uid x) ∧ us.drop j = vs.drop j ∧ Only (fun b => b = g) w wr) (fun _ v6 _ => n - (intOf v6).toNat)
    case atStart =>
      refine ⟨i0, i0 + 1, vs, rfl, by simp, by omega, by omega, HR1.out, ?_, rfl, HO1.out⟩
      have hxi : xs[i0]? = some (xs[i0]'(by rw [← HX.out.length, HR.out.len]; exact hi0)) := List.getElem?_eq_getElem _
      rw [filter_take_succ _ _ _ _ hxi, HYES.out _ hxi, take_none _ _ _ HNO.out]
      simpa using HX.out.take i0
    case round =>
      obtain ⟨i, j, us, rfl, rfl, hij, hj, hro, hall, hdr, ho⟩ := hrel
      have HRO := Lib.hid hro
      have HALL := Lib.hid hall
      have HDR := Lib.hid hdr
      have HO := Lib.hid ho
      clear hro hall hdr ho
      by_cases hlt : j < n
      · obtain ⟨g', v, hA, hv, hvl, hc⟩ := HRO.out.read.at_ hlt
        injection hA with hA
        injection hA with hA
        subst hA
        have hvv := hv
        rw [drop_get HDR.out] at hvv
        obtain ⟨x, hxi, hRx⟩ := HX.out.left hvv
        obtain ⟨B, m, d, rfl⟩ := HRR.out _ _ hRx
        have HV := Lib.hid hv
        have HRX := Lib.hid hRx
        have HXI := Lib.hid hxi
        have hcl := fun w' hw1 hw3 => gone_any ep uid gn x (.slice B m d) rfl w' hw1 hw3
        unfold liveCells at hc hcl
        have HC := Lib.hid hc
        have HCL := Lib.hid hcl
        have hh1 := HO.out.cell H1.out (fun e => HGN.out (congrArg some e.symm))
        have hh3 := HO.out.cell H3.out (fun e => HGN.out (congrArg some e.symm))
        have HH1 := Lib.hid hh1
        have HH3 := Lib.hid hh3
        clear hv hvl hc hvv hRx hxi hcl hh1 hh3
        obtain ⟨wa, hwa⟩ : ∃ wa, wa = wr.alloc (.cells #[.int .u32 (x.msg.uid : Int), .int .i64 x.msg.date, .int .i64 x.msg.flags, .slice B m d, .int .u32 (x.epoch : Int), .int .i64 (x.at_ : Int)] 224) := ⟨_, rfl⟩
        have hba : Below wr.heap.size wr wa := by rw [hwa]; exact (Below.refl _ _).alloc (Nat.le_refl _) _
        have hca : ∀ i v, #[Value.int .u32 (x.msg.uid : Int), .int .i64 x.msg.date, .int .i64 x.msg.flags, .slice B m d, .int .u32 (x.epoch : Int), .int .i64 (x.at_ : Int)][i]? = some v → wa.cell? ⟨wr.heap.size, i, none⟩ = some v := by intro i v hv; rw [hwa]; exact cell_new wr _ 224 hv
        have HBA := Lib.hid hba
        have HCA := Lib.hid hca
        have HWA := Lib.hid hwa
        clear hba hca hwa
        cases hg : goneP ep uid x
        all_goals
          have HG := Lib.hid hg
          clear hg
          go_wp2_with (first
            | (refine wpList_load_mid rfl 224 (.tmp 24) rfl g (j * 6) rfl _ d224 HC.out HU.out HD.out size224 ?_)
            | (go_at_call 156; rw [← HWA.out]; refine (HCL.out wa (cell_later HBA.out HH1.out) (cell_later HBA.out HH3.out)).mono ?_; rw [HG.out]; rintro e w2 ⟨rfl, hb2⟩; have HB2 := Lib.hid hb2; have c0 := cell_later HB2.out (HCA.out 0 _ rfl); have c1 := cell_later HB2.out (HCA.out 1 _ rfl); have c2 := cell_later HB2.out (HCA.out 2 _ rfl); have c3 := cell_later HB2.out (HCA.out 3 _ rfl); have c4 := cell_later HB2.out (HCA.out 4 _ rfl); have c5 := cell_later HB2.out (HCA.out 5 _ rfl); have HRO2 := Lib.hid ((HRO.out.below HBA.out).below HB2.out); clear hb2)
            | (refine wp_store_row rfl 224 (.tmp 33) (.tmp 32) rfl g i #[.int .u32 (x.msg.uid : Int), .int .i64 x.msg.date, .int .i64 x.msg.flags, .slice B m d, .int .u32 (x.epoch : Int), .int .i64 (x.at_ : Int)] rfl rfl HRO2.out (by omega) rfl size224 (live_one x B m d) ?_; intro w3 hro3 ho3; have HRO3 := Lib.hid hro3; have HO3 := Lib.hid ho3; clear hro3 ho3))
        · refine ⟨⟨i + 1, j + 1, us.set i (liveCells x (.slice B m d)), rfl, rfl, by omega, hlt, HRO3.out, ?_, ?_, ?_⟩, by simp [intOf]; omega⟩
          · rw [set_take_succ _ _ _ (by have := HRO.out.len; omega), filter_take_succ _ _ _ _ HXI.out, HG.out]
            exact HALL.out.snoc HRX.out
          · rw [set_drop _ _ _ _ (by omega)]; exact drop_step HDR.out
          · exact ((HO.out.trans (Only.of_below HBA.out (fun b => b = g)) (fun _ _ h => h)).trans (Only.of_below HB2.out (fun b => b = g)) (fun _ _ h => h)).trans HO3.out (fun _ _ h => h)
        · refine ⟨⟨i, j + 1, us, rfl, rfl, by omega, hlt, HRO2.out, ?_, drop_step HDR.out, ?_⟩, by simp [intOf]; omega⟩
          · rw [filter_take_succ _ _ _ _ HXI.out, HG.out]
            simpa using HALL.out
          · exact (HO.out.trans (Only.of_below HBA.out (fun b => b = g)) (fun _ _ h => h)).trans (Only.of_below HB2.out (fun b => b = g)) (fun _ _ h => h)
      · obtain rfl : j = n := by omega
        have sl : ∀ w', (Instr.slice 85 (.slice (some ⟨g, 0, none⟩) j c) (some (.int .i64 (i : Int))) none none).run Tryz.prog w' = .ok (.slice (some ⟨g, i * 6, none⟩) (j - i) (c - i)) w' := slice_row_l und85 inf224 g j c i hij hnc
        have sh : ∀ w', (Instr.slice 85 (.slice (some ⟨g, 0, none⟩) j c) none (some (.int .i64 (i : Int))) none).run Tryz.prog w' = .ok (.slice (some ⟨g, 0, none⟩) i c) w' := slice_row_h und85 inf224 _ j c i (by omega)
        go_wp2_with (refine wp_clear_tail rfl (.tmp 38) 85 224 6 _ rfl und85 z224 rfl (by simp [Value.cells, Value.oneCell']) g i rfl HRO.out hij ?_; intro w3 hro3 ho3; have HRO3 := Lib.hid hro3; have HO3 := Lib.hid ho3; clear hro3 ho3)
        go_ret
        refine ⟨i, us.take i, rfl, HRO3.out, ?_, (HO.out.trans HO3.out (fun _ _ h => h)).mono (fun b hb => by rw [hb]; rfl)⟩
        have := HALL.out
        have e : xs.take j = xs := List.take_of_length_le (by rw [← HX.out.length, HR.out.len]; exact Nat.le_refl _)
        rwa [e] at this
  · have HN := Lib.hid hnone
    have HB := Lib.hid hb1
    clear hnone hb1
    go_wp2_with fail
    go_ret
    exact ⟨n, vs, rfl, HR.out.below HB.out, by rw [filter_of_none _ _ HN.out]; exact HX.out, Only.of_below HB.out _⟩
end Go.Proofs.YtlhaempecidohaaGreatDoor
namespace Go.Proofs.YtlhaempecidohaaGreatDoor
open Go.RowKit
/-- a live message in a row that lies at A -/
def LiveA (w : World) (A : Option Addr) (v : List Value) (x : LiveS) : Prop := ∃ B m d, v = liveCells x (.slice B m d) ∧ RB w B m x.msg.oct ∧ m ≤ d ∧ (0 < m → ∀ q, blk B = some q → blk A ≠ some q)
theorem LiveA.liv {w : World} {A : Option Addr} (v : List Value) (x : LiveS) (h : LiveA w A v x) : LivV v x := by
  obtain ⟨B, m, d, h, -⟩ := h
  exact ⟨B, m, d, h⟩
def logCells (L : LogS) (o : Value) (t : Int) (cl : Bool) : List Value := [.string L.name, .int .u32 (L.epoch : Int), .int .u32 (L.next : Int), o, .int .i64 t, .bool cl]
/-- a log at block g, its messages in a row at A -/
structure LogM (w : World) (base g : Nat) (A : Option Addr) (n c : Nat) (vs : List (List Value)) (L : LogS) (t : Int) (cl : Bool) : Prop where
  blk : w.heap[g]? = some (.cells (logCells L (.slice A n c) t cl).toArray 87 (0, 0))
  row : RowO w base 224 6 A n c vs
  all : All2 (LiveA w A) vs L.live
  lt : g < base
theorem logNoB {w : World} {g : Nat} {L : LogS} {A : Option Addr} {n c : Nat} {t : Int} {cl : Bool} (h : w.heap[g]? = some (.cells (logCells L (.slice A n c) t cl).toArray 87 (0, 0))) : NoB w g :=
  NoB.cells h (fun j x e => by
    unfold logCells at e
    rw [List.getElem?_toArray] at e
    rcases j with _ | _ | _ | _ | _ | _ | j <;> simp at e)
section
variable {w w' : World} {base g n c : Nat} {A : Option Addr} {vs : List (List Value)} {L : LogS} {t : Int} {cl : Bool}
theorem LogM.ne (h : LogM w base g A n c vs L t cl) : YtlhaempecidohaaGreatDoor.blk A ≠ some g := fun e => by
  have := (h.row.lt g e).1
  have := h.lt
  omega
theorem LogM.below (h : LogM w base g A n c vs L t cl) (hb : Below w.heap.size w w') : LogM w' base g A n c vs L t cl :=
  ⟨(hb.block g (Array.getElem?_eq_some_iff.1 h.blk).1).trans h.blk, h.row.below hb, h.all.mono (fun v x ⟨B, m, d, h1, h2, h3, h4⟩ => ⟨B, m, d, h1, h2.below hb, h3, h4⟩), h.lt⟩
end
theorem LogM.turn {w w' : World} {base g n c : Nat} {A : Option Addr} {vs : List (List Value)} {L : LogS} {t : Int} {cl : Bool} (h : LogM w base g A n c vs L t cl) {L' : LogS} {t' : Int} {cl' : Bool}
    (hb : w'.heap[g]? = some (.cells (logCells L' (.slice A n c) t' cl').toArray 87 (0, 0))) (hl : L'.live = L.live) (ho : Only (fun b => b = g) w w') : LogM w' base g A n c vs L' t' cl' :=
  ⟨hb, h.row.only ho (fun q hq e => h.ne (by rw [← e]; exact hq)), by
    rw [hl]
    exact h.all.mono (fun v x ⟨B, m, d, h1, h2, h3, h4⟩ => ⟨B, m, d, h1, h2.keep ho (fun b hb => hb ▸ logNoB h.blk), h3, h4⟩), h.lt⟩
theorem take_next (L : LogS) (x : Note) (a : Nat) : (takeS L x a).next = if (decide (x.epoch = max L.epoch x.epoch) && !decide (x.kind = 1)) = true then max (if L.epoch < x.epoch then 1 else L.next) (behind x.msg.uid) else (if L.epoch < x.epoch then 1 else L.next) := by
  show (if L.epoch < x.epoch then (if x.kind = 1 then 1 else max 1 (behind x.msg.uid)) else if x.epoch = L.epoch ∧ x.kind ≠ 1 then max L.next (behind x.msg.uid) else L.next) = _
  by_cases h1 : L.epoch < x.epoch
  · have e : x.epoch = max L.epoch x.epoch := by omega
    by_cases h2 : x.kind = 1
    · simp [h1, h2]
    · simp [h1, h2, ← e]
  · by_cases h3 : x.epoch = L.epoch
    · have e : x.epoch = max L.epoch x.epoch := by omega
      by_cases h2 : x.kind = 1
      · simp [h3, h2]
      · simp [h3, h2]
    · have e : ¬ x.epoch = max L.epoch x.epoch := by omega
      simp [h1, h3, e]
theorem pays_later {we w4 w5 w6 : World} {g m : Nat} {A A5 B : Option Addr} {l : List Nat} (hr : RB we B m l) (hap : 0 < m → ∀ q, blk B = some q → blk A ≠ some q) (hb4 : Below we.heap.size we w4) (ho5 : Only (fun b => blk A = some b) w4 w5)
    (hbk : blk A5 = blk A ∨ blk A5 = some w4.heap.size) (hnb : NoB w5 g) (ho6 : Only (fun b => b = g) w5 w6) : RB w6 B m l ∧ (0 < m → ∀ q, blk B = some q → blk A5 ≠ some q) := by
  refine ⟨((hr.below hb4).only0 ho5 (fun h0 q hq => hap h0 q hq)).keep ho6 (fun b hb => hb ▸ hnb), fun h0 q hq e => ?_⟩
  rcases hbk with h | h
  · exact hap h0 q hq (by rw [← h]; exact e)
  · rw [h] at e
    injection e with e
    have := hr.lt h0 q hq
    have := hb4.size
    omega
theorem took_two {we w4 w5 : World} {base g n c m d c5 : Nat} {A A5 B : Option Addr} {vs : List (List Value)} {L : LogS} {t : Int} {cl : Bool} {x : LiveS} (h : LogM we base g A n c vs L t cl) (hr : RB we B m x.msg.oct) (hmd : m ≤ d)
    (hap : 0 < m → ∀ q, blk B = some q → blk A ≠ some q) (hb4 : Below we.heap.size we w4) (hro5 : RowO w5 base 224 6 A5 (n + 1) c5 (vs ++ [liveCells x (.slice B m d)])) (ho5 : Only (fun b => blk A = some b) w4 w5)
    (hbk : blk A5 = blk A ∨ blk A5 = some w4.heap.size) :
    LogM (w5.setCell ⟨g, 3, none⟩ (.slice A5 (n + 1) c5)) base g A5 (n + 1) c5 (vs ++ [liveCells x (.slice B m d)]) ⟨L.name, L.epoch, L.next, L.live ++ [x]⟩ t cl ∧
      Only (fun b => b = g ∨ blk A = some b) we (w5.setCell ⟨g, 3, none⟩ (.slice A5 (n + 1) c5)) ∧ ∀ q, blk A5 = some q → blk A = some q ∨ we.heap.size ≤ q := by
  have hlt := (Array.getElem?_eq_some_iff.1 h.blk).1
  have hg5 : w5.heap[g]? = _ := ho5.heap ((hb4.block g hlt).trans h.blk) h.ne
  have hnb := logNoB hg5
  have ho6 : Only (fun b => b = g) w5 (w5.setCell ⟨g, 3, none⟩ (.slice A5 (n + 1) c5)) := (Only.refl (fun b => b = g) w5).setCell (p := ⟨g, 3, none⟩) (.inl rfl) _
  have hne5 : ∀ q, blk A5 = some q → ¬ q = g := fun q hq e => by
    have := (hro5.lt q hq).1
    have := h.lt
    omega
  refine ⟨⟨blk_set hg5 3 _, hro5.only ho6 hne5, ?_, h.lt⟩, ?_, fun q hq => ?_⟩
  · refine All2.snoc (h.all.mono ?_) ?_
    · rintro v y ⟨B', m', d', h1, h2, h3, h4⟩
      obtain ⟨k1, k2⟩ := pays_later h2 h4 hb4 ho5 hbk hnb ho6
      exact ⟨B', m', d', h1, k1, h3, k2⟩
    · obtain ⟨k1, k2⟩ := pays_later hr hap hb4 ho5 hbk hnb ho6
      exact ⟨B, m, d, rfl, k1, hmd, k2⟩
  · exact ((Only.of_below hb4 (fun b => b = g ∨ blk A = some b)).trans ho5 (fun _ _ h => .inr h)).trans ho6 (fun _ _ h => .inl h)
  · rcases hbk with e | e
    · exact .inl (by rw [← e]; exact hq)
    · right
      rw [e] at hq
      injection hq with hq
      have := hb4.size
      omega
theorem took_three {wc w5 : World} {base g n c m : Nat} {A : Option Addr} {vs us : List (List Value)} {L : LogS} {t : Int} {cl : Bool} {lv : List LiveS} (h : LogM wc base g A n c vs L t cl) (hro5 : RowO w5 base 224 6 A m c us) (hall : All2 (LiveA wc A) us lv)
    (ho5 : Only (fun b => blk A = some b) wc w5) :
    LogM (w5.setCell ⟨g, 3, none⟩ (.slice A m c)) base g A m c us ⟨L.name, L.epoch, L.next, lv⟩ t cl ∧ Only (fun b => b = g ∨ blk A = some b) wc (w5.setCell ⟨g, 3, none⟩ (.slice A m c)) := by
  have hg5 : w5.heap[g]? = _ := ho5.heap h.blk h.ne
  have hnb := logNoB hg5
  have ho6 : Only (fun b => b = g) w5 (w5.setCell ⟨g, 3, none⟩ (.slice A m c)) := (Only.refl (fun b => b = g) w5).setCell (p := ⟨g, 3, none⟩) (.inl rfl) _
  refine ⟨⟨blk_set hg5 3 _, hro5.only ho6 (fun q hq e => h.ne (by rw [← e]; exact hq)), hall.mono ?_, h.lt⟩, ((ho5.mono (fun _ h => .inr h)).trans ho6 (fun _ _ h => .inl h))⟩
  rintro v y ⟨B', m', d', h1, h2, h3, h4⟩
  exact ⟨B', m', d', h1, (h2.only0 ho5 (fun h0 q hq => h4 h0 q hq)).keep ho6 (fun b hb => hb ▸ hnb), h3, h4⟩
theorem take_one (L : LogS) (x : Note) (a : Nat) (hk : x.kind = 1) : takeS L x a = ⟨x.name, max L.epoch x.epoch, (takeS L x a).next, L.live⟩ := by simp [takeS, hk]
theorem take_two (L : LogS) (x : Note) (a : Nat) (hk : x.kind = 2) : takeS L x a = ⟨x.name, max L.epoch x.epoch, (takeS L x a).next, L.live ++ [⟨x.msg, x.epoch, a⟩]⟩ := by simp [takeS, hk]
theorem take_three (L : LogS) (x : Note) (a : Nat) (hk : x.kind = 3) : takeS L x a = ⟨L.name, max L.epoch x.epoch, (takeS L x a).next, L.live.filter fun y => !goneP x.epoch x.msg.uid y⟩ := by simp [takeS, hk, goneP]
/-- what take has said -/
def TookN (w : World) (base g : Nat) (A : Option Addr) (L : LogS) (t : Int) (cl : Bool) (e : Ending) (w' : World) : Prop :=
  e = .returned (.tuple #[]) ∧ ∃ A' n' c' vs', LogM w' base g A' n' c' vs' L t cl ∧ Only (fun b => b = g ∨ blk A = some b) w w' ∧ ∀ q, blk A' = some q → blk A = some q ∨ w.heap.size ≤ q
set_option maxRecDepth 8000 in
set_option maxHeartbeats 3000000 in
theorem takeN_any (base g : Nat) (A : Option Addr) (n c : Nat) (vs : List (List Value)) (L : LogS) (t : Int) (cl : Bool) (x : Note) (B : Option Addr) (m d a : Nat) (w : World) (hl : LogM w base g A n c vs L t cl) (hk : x.kind = 1 ∨ x.kind = 2 ∨ x.kind = 3)
    (hB : RB w B m x.msg.oct) (hmd : m ≤ d) (hap : 0 < m → ∀ q, blk B = some q → blk A ≠ some q) (hn : n ≤ 10000000) (hbase : base ≤ w.heap.size) (hu : x.msg.uid < 4294967296) :
    Calls Tryz.prog 93 #[.pointer (some ⟨g, 0, none⟩), noteV x (.slice B m d), .int .i64 (a : Int)] w (TookN w base g A (takeS L x a) t cl) := by
  have hlt := (Array.getElem?_eq_some_iff.1 hl.blk).1
  have hb0 : Below w.heap.size w (w.alloc (.cells (noteCells x (.slice B m d)).toArray 134)) := (Below.refl _ _).alloc (Nat.le_refl _) _
  have hC0 := NoteC.boxed w x (.slice B m d) 134
  have hg0 := (hb0.block g hlt).trans hl.blk
  obtain ⟨w0, hw0⟩ : ∃ w0, w0 = w.alloc (.cells (noteCells x (.slice B m d)).toArray 134) := ⟨_, rfl⟩
  rw [← hw0] at hb0 hC0 hg0
  have HW0 := Lib.hid hw0
  have HB0 := Lib.hid hb0
  have HC0 := Lib.hid hC0
  have HL := Lib.hid hl
  have HB := Lib.hid hB
  have HG0 := Lib.hid hg0
  have HAP := Lib.hid hap
  have HK := Lib.hid hk
  clear hw0 hb0 hC0 hl hB hg0 hap hk
  unfold noteV
  unfold noteCells at HW0 ⊢
  unfold msgCells at HW0 ⊢
  dsimp only [List.cons_append, List.nil_append] at HW0 ⊢
  obtain ⟨e', he'⟩ : ∃ e', e' = max L.epoch x.epoch := ⟨_, rfl⟩
  obtain ⟨n', hn'⟩ : ∃ n', n' = (takeS L x a).next := ⟨_, rfl⟩
  have HE' := Lib.hid he'
  have HN' := Lib.hid hn'
  clear he' hn'
  obtain ⟨n1, hn1⟩ : ∃ n1, n1 = if L.epoch < x.epoch then 1 else L.next := ⟨_, rfl⟩
  have HN1 := Lib.hid hn1
  clear hn1
  unfold logCells at HG0
  dsimp only [List.toArray] at HG0
  have g0 := cell_of_row w0 g 0 _ _ _ HG0.out
  have g1 := cell_of_row w0 g 1 _ _ _ HG0.out
  have g2 := cell_of_row w0 g 2 _ _ _ HG0.out
  have g3 := cell_of_row w0 g 3 _ _ _ HG0.out
  have gf : ∀ j, w0.frozen? ⟨g, j, none⟩ = false := fun j => by simp [World.frozen?, HG0.out]
  obtain ⟨c0, c1, c2, c3, c4, c5, c6⟩ := HC0.out
  go_enter Tryz.func93, Tryz.ntmps93
  go_upto_region 1 with fail
  rw [← HW0.out]
  go_quiet (fail)
  go_upto_if 12 with fail
  go_cut [] from 13 to 20 (fun wx => wx.heap[g]? = some (.cells #[.string L.name, .int .u32 (e' : Int), .int .u32 (n1 : Int), .slice A n c, .int .i64 t, .bool cl] 87 (0, 0)) ∧ Only (fun b => b = g) w0 wx)
  case first =>
    by_cases h : L.epoch < x.epoch
    · go_wp2_with fail
      go_meet
      refine ⟨?_, (((Only.refl (fun b => b = g) w0).drewN nq).setCell (p := ⟨g, 1, none⟩) (.inl rfl) _).setCell (p := ⟨g, 2, none⟩) (.inl rfl) _⟩
      rw [HE'.out, Nat.max_eq_right (by omega), HN1.out, if_pos h]
      exact blk_set (blk_set (show (w0.drewN nq).heap[g]? = _ from HG0.out) 1 _) 2 _
    · go_wp2_with fail
      go_meet
      refine ⟨?_, (Only.refl (fun b => b = g) w0).drewN nq⟩
      rw [HE'.out, Nat.max_eq_left (by omega), HN1.out, if_neg h]
      exact HG0.out
  case rest =>
    obtain ⟨hg1, ho1⟩ := hcut
    have hgn : ¬ w.heap.size = g := by omega
    have HG1 := Lib.hid hg1
    have HO1 := Lib.hid ho1
    have d0 := ho1.cell c0 hgn
    have d1 := ho1.cell c1 hgn
    have d2 := ho1.cell c2 hgn
    have d3 := ho1.cell c3 hgn
    clear c0 c1 c2 c3 c4 c5 c6 g0 g1 g2 g3 gf ho1 hg1
    have g0 := cell_of_row wc g 0 _ _ _ HG1.out
    have g1 := cell_of_row wc g 1 _ _ _ HG1.out
    have g2 := cell_of_row wc g 2 _ _ _ HG1.out
    have e1 := nat_beq x.epoch e'
    obtain ⟨b1, hb1⟩ : ∃ b, b = decide (x.epoch = e') := ⟨_, rfl⟩
    obtain ⟨b2, hb2⟩ : ∃ b, b = decide (x.kind = 1) := ⟨_, rfl⟩
    have e2 : (x.kind != 1) = !b2 := by rw [hb2]; rfl
    rw [← hb1] at e1
    have HB1 := Lib.hid hb1
    have HB2 := Lib.hid hb2
    clear hb1 hb2
    go_upto_region 3 with fail
    go_cut [32] from 21 to 32 (fun v32 wx => v32 = .bool (b1 && !b2) ∧ ∃ q, wx = wc.drewN q)
    case first =>
      cases b1 <;> cases b2
      all_goals
        go_quiet (fail)
        go_wp2_with fail
        go_meet
        refine ⟨?_, nq, rfl⟩
        first | rfl | (rw [e2]; rfl)
    case rest =>
      obtain ⟨rfl, q, rfl⟩ := hcut
      have HNX : Hid (n' = if (b1 && !b2) = true then max n1 (behind x.msg.uid) else n1) := by
        show n' = _
        rw [HN'.out, take_next, HB1.out, HB2.out, HE'.out, HN1.out]
      generalize (b1 && !b2) = b at HNX ⊢
      have HG2 : Hid ((wc.drewN q).heap[g]? = _) := HG1.out
      have HO2 : Hid (Only (fun b => b = g) w0 (wc.drewN q)) := HO1.out.drewN q
      have d0 : (wc.drewN q).cell? _ = _ := d0
      have d1 : (wc.drewN q).cell? _ = _ := d1
      have d2 : (wc.drewN q).cell? _ = _ := d2
      have d3 : (wc.drewN q).cell? _ = _ := d3
      have g2 : (wc.drewN q).cell? _ = _ := g2
      have gf : ∀ j, (wc.drewN q).frozen? ⟨g, j, none⟩ = false := fun j => by simp [World.frozen?, HG1.out]
      generalize wc.drewN q = wd at HG2 HO2 d0 d1 d2 d3 g2 gf ⊢
      clear HG1 HO1 g0 g1 e1 e2
      go_upto_if 32 with fail
      go_cut [] from 33 to 44 (fun wx => wx.heap[g]? = some (.cells #[.string L.name, .int .u32 (e' : Int), .int .u32 (n' : Int), .slice A n c, .int .i64 t, .bool cl] 87 (0, 0)) ∧ Only (fun b => b = g) w0 wx)
      case first =>
        cases b
        · go_wp2_with fail
          go_meet
          refine ⟨?_, HO2.out⟩
          rw [HNX.out]
          exact HG2.out
        · go_wp2_with fail
          go_region_with (go_at_call 98; refine (behind_any x.msg.uid hu _).mono ?_; rintro e v ⟨rfl, rfl⟩)
          all_goals
            go_wp2_with fail
            go_meet
            refine ⟨?_, (HO2.out.setCell (p := ⟨g, 2, none⟩) (.inl rfl) _).drew⟩
            have e : (n' : Int) = max (n1 : Int) (behind x.msg.uid : Int) := by rw [HNX.out, if_pos trivial]; omega
            rw [e]
            exact blk_set HG2.out 2 _
      case rest =>
        obtain ⟨hg3, ho3⟩ := hcut
        have HO3 := Lib.hid ho3
        have HG3 := Lib.hid hg3
        have hm3 : LogM wc base g A n c vs ⟨L.name, e', n', L.live⟩ t cl := (HL.out.below HB0.out).turn hg3 rfl ho3
        have HM3 := Lib.hid hm3
        clear d0 d1 d2 d3 g2 gf HG2 HO2 hg3 ho3 hm3
        have hgn : ¬ w.heap.size = g := by omega
        obtain ⟨c0, c1, c2, c3, c4, c5, c6⟩ := HC0.out
        have d0 := HO3.out.cell c0 hgn
        have d1 := HO3.out.cell c1 hgn
        have d2 := HO3.out.cell c2 hgn
        have d3 := HO3.out.cell c3 hgn
        have d4 := HO3.out.cell c4 hgn
        have d5 := HO3.out.cell c5 hgn
        have d6 := HO3.out.cell c6 hgn
        have g0 := cell_of_row wc g 0 _ _ _ HG3.out
        have g3 := cell_of_row wc g 3 _ _ _ HG3.out
        have gf : ∀ j, wc.frozen? ⟨g, j, none⟩ = false := fun j => by simp [World.frozen?, HG3.out]
        clear c0 c1 c2 c3 c4 c5 c6
        have HO0 : Hid (Only (fun b => b = g ∨ blk A = some b) w wc) := ((Only.of_below HB0.out (fun b => b = g ∨ blk A = some b)).trans HO3.out (fun _ _ h => .inl h))
        obtain ⟨we, hwe⟩ : ∃ we, we = wc.setCell ⟨g, 0, none⟩ (.string x.name) := ⟨_, rfl⟩
        have ho4 : Only (fun b => b = g) wc we := by rw [hwe]; exact (Only.refl (fun b => b = g) wc).setCell (p := ⟨g, 0, none⟩) (.inl rfl) _
        have hg4 : we.heap[g]? = some (.cells (logCells ⟨x.name, e', n', L.live⟩ (.slice A n c) t cl).toArray 87 (0, 0)) := by rw [hwe]; exact blk_set HG3.out 0 _
        have HM4 := Lib.hid (HM3.out.turn hg4 rfl ho4)
        have HO4 := Lib.hid ho4
        have HG4 := Lib.hid hg4
        have HWE := Lib.hid hwe
        have hwq : base ≤ we.heap.size := by have := ho4.size; have := HO3.out.size; have := HB0.out.size; omega
        clear hwe ho4 hg4
        rcases HK.out with hk | hk | hk
        · rw [hk] at d0
          have HKD := Lib.hid hk
          clear hk
          go_wp2_with fail
          rw [← HWE.out]
          go_end0
          refine ⟨rfl, A, n, c, vs, ?_, HO0.out.trans HO4.out (fun _ _ h => .inl h), fun q hq => .inl hq⟩
          rw [take_one L x a HKD.out, ← HE'.out, ← HN'.out]
          exact HM4.out
        · rw [hk] at d0
          have HKD := Lib.hid hk
          clear hk
          go_wp2_with fail
          rw [← HWE.out]
          have d0 := HO4.out.cell d0 hgn
          have d1 := HO4.out.cell d1 hgn
          have d3 := HO4.out.cell d3 hgn
          have d4 := HO4.out.cell d4 hgn
          have d5 := HO4.out.cell d5 hgn
          have d6 := HO4.out.cell d6 hgn
          have k3 : we.cell? ⟨g, 3, none⟩ = some (.slice A n c) := cell_of_row we g 3 _ _ _ HG4.out
          clear d2 g0 g3 gf
          have hgl : g < we.heap.size := (Array.getElem?_eq_some_iff.1 HG4.out).1
          have hnl : w.heap.size < we.heap.size := World.block_lt_of_cell? _ _ d0
          have hgl' : ¬ g = we.heap.size := by omega
          have hnl' : ¬ w.heap.size = we.heap.size := by omega
          go_region_law (refine step_append_row rfl (.tmp 61) (.tmp 68) 85 224 6 _ 64 und85 inf224 rfl (by decide) (by decide) rfl rfl rfl (HM4.out.row.below ((Below.refl _ _).alloc (Nat.le_refl _) _).drew) (range_new we (liveCells ⟨x.msg, x.epoch, a⟩ (.slice B m d)) 224) rfl (by simp [liveCells, Value.oneCell']) (by omega) (by simp; omega) ?_; intro A5 c5 w5 hro5 ho5 hbk5; have hg5 := ho5.heap (((Below.refl we.heap.size we).alloc (Nat.le_refl _) _).drew.block g (by have := (Array.getElem?_eq_some_iff.1 HG4.out).1; omega) |>.trans HG4.out) HL.out.ne; have HG5 := Lib.hid hg5; have m3 : w5.cell? ⟨g, 3, none⟩ = some (.slice A n c) := cell_of_row w5 g 3 _ _ _ HG5.out; have mf : ∀ j, w5.frozen? ⟨g, j, none⟩ = false := (fun j => by simp [World.frozen?, HG5.out]); clear hg5; have HRO5 := Lib.hid hro5; have HO5 := Lib.hid ho5; have HBK5 := Lib.hid hbk5; clear hro5 ho5 hbk5)
          all_goals
            (try go_wp2_with fail)
            go_end0
            obtain ⟨k1, k2, k3⟩ := took_two (x := ⟨x.msg, x.epoch, a⟩) HM4.out (((HB.out.below HB0.out).keep HO3.out (fun b hb => hb ▸ logNoB ((HL.out.below HB0.out).blk))).keep HO4.out (fun b hb => hb ▸ logNoB HM3.out.blk)) hmd HAP.out (w4 := (we.alloc (.cells #[.int .u32 (x.msg.uid : Int), .int .i64 x.msg.date, .int .i64 x.msg.flags, .slice B m d, .int .u32 (x.epoch : Int), .int .i64 (a : Int)] 224)).drew) ((Below.refl _ _).alloc (Nat.le_refl _) _).drew HRO5.out HO5.out HBK5.out
            refine ⟨rfl, A5, n + 1, c5, vs ++ [liveCells ⟨x.msg, x.epoch, a⟩ (.slice B m d)], ?_, (HO0.out.trans HO4.out (fun _ _ h => .inl h)).trans k2 (fun _ _ h => h), fun q hq => ?_⟩
            · rw [take_two L x a HKD.out, ← HE'.out, ← HN'.out]
              exact k1
            · rcases k3 q hq with h | h
              · exact .inl h
              · exact .inr (by have := HO0.out.size; have := HO4.out.size; omega)
        · rw [hk] at d0
          have HKD := Lib.hid hk
          clear hk
          go_wp2_with fail
          have hnA : blk A ≠ some w.heap.size := fun e => by have := (HL.out.row.lt _ e).2; omega
          refine (delLive_any (LiveA wc A) LiveA.liv x.epoch x.msg.uid w.heap.size base A n c vs L.live wc HM3.out.row HM3.out.all hn d1 d3 hnA).mono ?_
          rintro e w5 ⟨m5, us, rfl, hro, hall, ho⟩
          have hg5 := ho.heap HG3.out HL.out.ne
          have HG5 := Lib.hid hg5
          have m3 : w5.cell? ⟨g, 3, none⟩ = some (.slice A n c) := cell_of_row w5 g 3 _ _ _ HG5.out
          have mf : ∀ j, w5.frozen? ⟨g, j, none⟩ = false := (fun j => by simp [World.frozen?, HG5.out])
          obtain ⟨k1, k2⟩ := took_three HM3.out hro hall ho
          have HK1 := Lib.hid k1
          have HK2 := Lib.hid k2
          clear hg5 hro hall ho k1 k2
          go_wp2_with fail
          go_end0
          refine ⟨rfl, A, m5, c, us, ?_, HO0.out.trans HK2.out (fun _ _ h => h), fun q hq => .inl hq⟩
          rw [take_three L x a HKD.out, ← HE'.out, ← HN'.out]
          exact HK1.out
end Go.Proofs.YtlhaempecidohaaGreatDoor
namespace Go.Proofs.YtlhaempecidohaaGreatDoor
open Go.RowKit
/-- the UID ahead of a place -/
def prevU (l : List LiveS) : Nat → Option Nat
  | 0 => none
  | j + 1 => (l[j]?).map (·.msg.uid)
def badAt (ep : Nat) (p : Option Nat) (x : LiveS) : Bool := !decide (x.epoch = ep) || decide (x.msg.uid = 4294967295) || (match p with | none => false | some u => decide (x.msg.uid ≤ u))
theorem clean_step (l : List LiveS) (ep i : Nat) (x : LiveS) (h : l[i]? = some x) :
    cleanFrom ep (prevU l i) (l.drop i) = (!badAt ep (prevU l i) x && cleanFrom ep (prevU l (i + 1)) (l.drop (i + 1))) := by
  obtain ⟨hi, hx⟩ := List.getElem?_eq_some_iff.1 h
  rw [List.drop_eq_getElem_cons hi, hx]
  have e : prevU l (i + 1) = some x.msg.uid := by show (l[i]?).map _ = _; rw [h]; rfl
  rw [e]
  show (decide (x.epoch = ep) && !decide (x.msg.uid = 4294967295) && (match prevU l i with | none => true | some u => decide (u < x.msg.uid)) && _) = _
  unfold badAt
  cases prevU l i with
  | none => cases decide (x.epoch = ep) <;> cases decide (x.msg.uid = 4294967295) <;> simp
  | some u =>
    have : decide (u < x.msg.uid) = !decide (x.msg.uid ≤ u) := by by_cases h : u < x.msg.uid <;> simp [h] <;> omega
    dsimp only
    rw [this]
    cases decide (x.epoch = ep) <;> cases decide (x.msg.uid = 4294967295) <;> cases decide (x.msg.uid ≤ u) <;> simp
theorem clean_end (l : List LiveS) (ep i : Nat) (h : l.length ≤ i) : cleanFrom ep (prevU l i) (l.drop i) = true := by
  rw [List.drop_eq_nil_of_le h]; rfl
set_option maxRecDepth 8000 in
set_option maxHeartbeats 3000000 in
theorem clean_any (base g : Nat) (A : Option Addr) (n c : Nat) (vs : List (List Value)) (L : LogS) (t : Int) (cl : Bool) (w : World) (hl : LogM w base g A n c vs L t cl) (hn : n ≤ 10000000) :
    Calls Tryz.prog 94 #[.pointer (some ⟨g, 0, none⟩)] w fun e w' => e = .returned (.bool (cleanS L)) ∧ Below w.heap.size w w' := by
  have HL := Lib.hid hl
  have g1 : w.cell? ⟨g, 1, none⟩ = some (.int .u32 (L.epoch : Int)) := cell_of_row w g 1 _ _ _ hl.blk
  have g3 : w.cell? ⟨g, 3, none⟩ = some (.slice A n c) := cell_of_row w g 3 _ _ _ hl.blk
  have HLEN : Hid (L.live.length = n) := by show _ = _; rw [← hl.all.length]; exact hl.row.len
  have HG1 := Lib.hid g1
  have HG3 := Lib.hid g3
  clear hl
  go_enter Tryz.func94, Tryz.ntmps94
  go_wp2_with fail
  go_loopw [10] (fun v10 wr => ∃ i : Nat, i ≤ n ∧ v10 = .int .i64 (i : Int) ∧ cleanFrom L.epoch (prevU L.live i) (L.live.drop i) = cleanS L ∧ Below w.heap.size w wr) (fun v10 _ => n - (intOf v10).toNat)
  case atStart => exact ⟨0, Nat.zero_le _, rfl, rfl, Below.refl _ _⟩
  case round =>
    obtain ⟨i, hi, rfl, hcl, hb⟩ := hrel
    have HCL := Lib.hid hcl
    have HB := Lib.hid hb
    clear hcl hb g1 g3
    by_cases hlt : i < n
    · have hrr := (HL.out.below HB.out).row.read
      obtain ⟨gA, v, hA, hv, hvl, hc⟩ := hrr.at_ hlt
      subst hA
      obtain ⟨x, hxi, B, m, d, rfl, -⟩ := HL.out.all.left hv
      have HXI := Lib.hid hxi
      have hst := clean_step L.live L.epoch i x hxi
      rw [HCL.out] at hst
      have HST := Lib.hid hst
      obtain ⟨d224, hu, hd⟩ := rowT row224
      have HU := Lib.hid hu
      have HD := Lib.hid hd
      unfold liveCells at hc
      have HC := Lib.hid hc
      have HRR := Lib.hid hrr
      clear hrr hv hvl hc hxi hst hu hd
      have g1 := cell_later HB.out HG1.out
      have g3 := cell_later HB.out HG3.out
      obtain ⟨wa, hwa⟩ : ∃ wa, wa = wr.alloc (.cells #[.int .u32 (x.msg.uid : Int), .int .i64 x.msg.date, .int .i64 x.msg.flags, .slice B m d, .int .u32 (x.epoch : Int), .int .i64 (x.at_ : Int)] 224) := ⟨_, rfl⟩
      have hba : Below wr.heap.size wr wa := by rw [hwa]; exact (Below.refl _ _).alloc (Nat.le_refl _) _
      have HBA := Lib.hid hba
      have HWA := Lib.hid hwa
      have a0 : wa.cell? ⟨wr.heap.size, 0, none⟩ = some (.int .u32 (x.msg.uid : Int)) := by rw [hwa]; exact cell_new wr _ 224 rfl
      have a4 : wa.cell? ⟨wr.heap.size, 4, none⟩ = some (.int .u32 (x.epoch : Int)) := by rw [hwa]; exact cell_new wr _ 224 rfl
      have HBW := Lib.hid (HB.out.trans (hba.mono HB.out.size))
      clear hba hwa
      go_upto_region 4 with (refine wpList_load_mid rfl 224 (.tmp 13) rfl gA (i * 6) rfl _ d224 HC.out HU.out HD.out size224 ?_)
      rw [← HWA.out]
      have g1 := cell_later HBA.out g1
      have g3 := cell_later HBA.out g3
      have e1 : ((x.epoch : Int) != (L.epoch : Int)) = !decide (x.epoch = L.epoch) := by unfold bne; rw [nat_beq]
      have e2 : ((x.msg.uid : Int) == 4294967295) = decide (x.msg.uid = 4294967295) := nat_beq _ 4294967295
      obtain ⟨b1, hb1⟩ : ∃ b, b = decide (x.epoch = L.epoch) := ⟨_, rfl⟩
      obtain ⟨b2, hb2⟩ : ∃ b, b = decide (x.msg.uid = 4294967295) := ⟨_, rfl⟩
      have HBD : Hid (badAt L.epoch (prevU L.live i) x = (!b1 || b2 || (match prevU L.live i with | none => false | some u => decide (x.msg.uid ≤ u)))) := by
        show _ = _
        rw [hb1, hb2]; rfl
      rw [← hb1] at e1
      rw [← hb2] at e2
      clear hb1 hb2
      go_cut [47] from 15 to 47 (fun v47 wx => v47 = .bool (badAt L.epoch (prevU L.live i) x) ∧ ∃ q, wx = wa.drewN q)
      case first =>
        clear HST HCL
        cases b1
        · go_quiet (fail)
          go_wp2_with fail
          go_meet
          exact ⟨by rw [HBD.out]; simp, nq, rfl⟩
        · cases b2
          · rcases i with _ | j
            · go_quiet (fail)
              go_wp2_with fail
              go_meet
              exact ⟨by rw [HBD.out]; simp [prevU], nq, rfl⟩
            · obtain ⟨gA', v', hA', hv', hvl', hc'⟩ := HRR.out.at_ (i := j) (by omega)
              injection hA' with hA'
              injection hA' with hA'
              subst hA'
              obtain ⟨y, hyj, B', m', d', rfl, -⟩ := HL.out.all.left hv'
              have r0 : wa.cell? ⟨gA, j * 6, none⟩ = some (.int .u32 (y.msg.uid : Int)) := cell_later HBA.out (by have := hc' 0 _ rfl; rwa [Nat.add_zero] at this)
              have hp : prevU L.live (j + 1) = some y.msg.uid := by show (L.live[j]?).map _ = _; rw [hyj]; rfl
              have HP := Lib.hid hp
              clear hv' hvl' hc' hyj hp
              have ej : ((j + 1 : Nat) : Int) - 1 = (j : Int) := by omega
              have hjn : j < n := by omega
              obtain ⟨b4, hb4⟩ : ∃ b, b = decide (x.msg.uid ≤ y.msg.uid) := ⟨_, rfl⟩
              have HB4 := Lib.hid hb4
              have e4 : decide ((x.msg.uid : Int) ≤ (y.msg.uid : Int)) = b4 := by rw [hb4]; simp
              have e4' : decide (x.msg.uid ≤ y.msg.uid) = b4 := hb4.symm
              clear hb4
              cases b4
              all_goals
                go_quiet (fail)
                go_wp2_with fail
                go_meet
                exact ⟨by rw [HBD.out, HP.out]; dsimp only; rw [← HB4.out]; rfl, nq, rfl⟩
          · go_quiet (fail)
            go_wp2_with fail
            go_meet
            exact ⟨by rw [HBD.out]; simp, nq, rfl⟩
      case rest =>
        obtain ⟨rfl, q, rfl⟩ := hcut
        have HBW' : Hid (Below w.heap.size w (wa.drewN q)) := Lib.hid (Below.dn HBW.out q)
        generalize wa.drewN q = wb at HBW' ⊢
        obtain ⟨bd, hbd⟩ : ∃ b, b = badAt L.epoch (prevU L.live i) x := ⟨_, rfl⟩
        rw [← hbd]
        have HBDD := Lib.hid hbd
        clear hbd
        cases bd
        · go_wp2_with fail
          refine ⟨⟨i + 1, hlt, by first | rfl | (congr 1), ?_, HBW'.out⟩, by simp [intOf]; omega⟩
          rw [HST.out, ← HBDD.out]; rfl
        · go_wp2_with fail
          go_ret
          refine ⟨?_, HBW'.out⟩
          rw [HST.out, ← HBDD.out]; rfl
    · go_wp2_with fail
      go_ret
      refine ⟨?_, HB.out⟩
      rw [← HCL.out, clean_end _ _ _ (by have := HLEN.out; omega)]; rfl
end Go.Proofs.YtlhaempecidohaaGreatDoor
namespace Go.Proofs.YtlhaempecidohaaGreatDoor
open Go.RowKit
def entV (e : Nat × Nat) : List Value := [.int .u32 (e.1 : Int), .int .i64 (e.2 : Int)]
def markV (m : Nat × Int) : List Value := [.int .u32 (m.1 : Int), .int .i64 m.2]
def idxCells (x : IdxS) (o : Value) : List Value := [.string x.name, .int .u32 (x.epoch : Int), .int .u32 (x.next : Int), .int .i64 (x.upto : Int), o]
def flgCells (x : FlgS) (o : Value) : List Value := [.int .u32 (x.epoch : Int), o]
theorem row226 : (Tryz.prog.underlying 226).map TypeDesc.isRow = some true := by kernel_rfl
theorem size226 : (Tryz.prog.info? 226).map (·.size) = some 2 := by kernel_rfl
theorem row160 : (Tryz.prog.underlying 160).map TypeDesc.isRow = some true := by kernel_rfl
theorem size160 : (Tryz.prog.info? 160).map (·.size) = some 2 := by kernel_rfl
theorem RowR.map {w : World} {A : Option Addr} {n k : Nat} {α : Type} {f : α → List Value} {l : List α} (h : RowR w A n k (l.map f)) {i : Nat} (hi : i < n) : ∃ g x, A = some ⟨g, 0, none⟩ ∧ l[i]? = some x ∧ w.rangeAt g (i * k) (f x) := by
  obtain ⟨g, v, h1, h2, -, h3⟩ := h.at_ hi
  rw [List.getElem?_map] at h2
  obtain ⟨x, hx, rfl⟩ := Option.map_eq_some_iff.1 h2
  exact ⟨g, x, h1, hx, h3⟩
def badE (next last : Nat) (e : Nat × Nat) : Bool := decide (e.1 ≤ last) || (decide (next ≤ e.1) && !decide (next = 4294967295)) || decide (4294967295 < e.2)
theorem idx_step (next last : Nat) (e : Nat × Nat) (r : List (Nat × Nat)) : idxFrom next last (e :: r) = (!badE next last e && idxFrom next e.1 r) := by
  unfold badE
  show (decide (last < e.1) && (decide (e.1 < next) || decide (next = 4294967295)) && decide (e.2 ≤ 4294967295) && idxFrom next e.1 r) = _
  have h1 : decide (last < e.1) = !decide (e.1 ≤ last) := by by_cases h : last < e.1 <;> simp [h] <;> omega
  have h2 : decide (e.1 < next) = !decide (next ≤ e.1) := by by_cases h : e.1 < next <;> simp [h] <;> omega
  have h3 : decide (e.2 ≤ 4294967295) = !decide (4294967295 < e.2) := by by_cases h : e.2 ≤ 4294967295 <;> simp [h] <;> omega
  rw [h1, h2, h3]
  cases decide (e.1 ≤ last) <;> cases decide (next ≤ e.1) <;> cases decide (next = 4294967295) <;> cases decide (4294967295 < e.2) <;> rfl
set_option maxRecDepth 8000 in
set_option maxHeartbeats 3000000 in
theorem rightIdx_any (x : IdxS) (A : Option Addr) (n c : Nat) (w : World) (hr : RowR w A n 2 (x.L.map entV)) (hn : n ≤ 10000000) (hs : x.name.size ≤ 1000000) (hE : Env w) :
    Calls Tryz.prog 139 #[.agg (idxCells x (.slice A n c)).toArray] w fun e w' => e = .returned (.bool (rightIdx x)) ∧ Below w.heap.size w w' := by
  have hlen : x.L.length = n := by have := hr.len; rwa [List.length_map] at this
  obtain ⟨ws, hws⟩ : ∃ ws, ws = w.alloc (.cells (idxCells x (.slice A n c)).toArray 149) := ⟨_, rfl⟩
  have hbs : Below w.heap.size w ws := by rw [hws]; exact (Below.refl _ _).alloc (Nat.le_refl _) _
  have hg : ws.heap[w.heap.size]? = some (.cells (idxCells x (.slice A n c)).toArray 149 (0, 0)) := by rw [hws]; exact heap_alloc_new w _
  have hq : rightIdx x = (idxFrom x.next 0 x.L && (named x.name && decide (1 ≤ x.epoch) && decide (1 ≤ x.next) && decide (x.upto ≤ 4294967295) && decide (n ≤ 500))) := by
    unfold rightIdx
    rw [hlen]
    simp only [Bool.and_assoc]
  have HQ := Lib.hid hq
  have HR := Lib.hid hr
  have HBS := Lib.hid hbs
  have HES := Lib.hid (hE.below hbs)
  have HLEN : Hid (x.L.length = n) := hlen
  unfold idxCells at hws hg ⊢
  have c0 : ws.cell? ⟨w.heap.size, 0, none⟩ = some (.string x.name) := cell_of_row ws _ 0 _ _ _ hg
  have c1 : ws.cell? ⟨w.heap.size, 1, none⟩ = some (.int .u32 (x.epoch : Int)) := cell_of_row ws _ 1 _ _ _ hg
  have c2 : ws.cell? ⟨w.heap.size, 2, none⟩ = some (.int .u32 (x.next : Int)) := cell_of_row ws _ 2 _ _ _ hg
  have c3 : ws.cell? ⟨w.heap.size, 3, none⟩ = some (.int .i64 (x.upto : Int)) := cell_of_row ws _ 3 _ _ _ hg
  have c4 : ws.cell? ⟨w.heap.size, 4, none⟩ = some (.slice A n c) := cell_of_row ws _ 4 _ _ _ hg
  have HWS := Lib.hid hws
  have HC0 := Lib.hid c0
  have HC1 := Lib.hid c1
  have HC2 := Lib.hid c2
  have HC3 := Lib.hid c3
  have HC4 := Lib.hid c4
  clear hq hr hbs hE hlen hws hg
  go_enter Tryz.func139, Tryz.ntmps139
  go_upto_region 2 with fail
  rw [show w.alloc _ = ws from HWS.out.symm]
  go_wp2_with fail
  go_loopw [3, 9] (fun v3 v9 wr => ∃ (i last : Nat), i ≤ n ∧ v3 = .int .u32 (last : Int) ∧ v9 = .int .i64 (i : Int) ∧ idxFrom x.next last (x.L.drop i) = idxFrom x.next 0 x.L ∧ Below ws.heap.size ws wr) (fun _ v9 _ => n - (intOf v9).toNat)
  case atStart => exact ⟨0, 0, Nat.zero_le _, rfl, rfl, rfl, Below.refl _ _⟩
  case round =>
    obtain ⟨i, last, hi, rfl, rfl, hidx, hb⟩ := hrel
    have HIDX := Lib.hid hidx
    have HB := Lib.hid hb
    clear hidx hb c0 c1 c2 c3 c4
    by_cases hlt : i < n
    · obtain ⟨gA, e, rfl, hxe, hc⟩ := ((HR.out.below HBS.out).below HB.out).map hlt
      obtain ⟨d226, hu, hd⟩ := rowT row226
      have HU := Lib.hid hu
      have HD := Lib.hid hd
      unfold entV at hc
      have HC := Lib.hid hc
      obtain ⟨hil, hie⟩ := List.getElem?_eq_some_iff.1 hxe
      have hst := HIDX.out
      rw [List.drop_eq_getElem_cons hil, hie, idx_step] at hst
      have HST := Lib.hid hst
      clear hu hd hc hxe hil hie hst
      have c2 := cell_later HB.out HC2.out
      obtain ⟨wa, hwa⟩ : ∃ wa, wa = wr.alloc (.cells #[.int .u32 (e.1 : Int), .int .i64 (e.2 : Int)] 226) := ⟨_, rfl⟩
      have hba : Below wr.heap.size wr wa := by rw [hwa]; exact (Below.refl _ _).alloc (Nat.le_refl _) _
      have a0 : wa.cell? ⟨wr.heap.size, 0, none⟩ = some (.int .u32 (e.1 : Int)) := by rw [hwa]; exact cell_new wr _ 226 rfl
      have a1 : wa.cell? ⟨wr.heap.size, 1, none⟩ = some (.int .i64 (e.2 : Int)) := by rw [hwa]; exact cell_new wr _ 226 rfl
      have c2 := cell_later hba c2
      have HBA := Lib.hid hba
      have HWA := Lib.hid hwa
      have c4 := cell_later HB.out HC4.out
      clear hba hwa
      go_upto_region 5 with (refine wpList_load_mid rfl 226 (.tmp 11) rfl gA (i * 2) rfl _ d226 HC.out HU.out HD.out size226 ?_)
      rw [← HWA.out]
      go_cut [38] from 13 to 38 (fun v38 wx => v38 = .bool (badE x.next last e) ∧ wx = wa)
      case first =>
        have p0 : ¬ ((e.2 : Int) < 0) := by omega
        by_cases p1 : e.1 ≤ last
        · have p1' : (e.1 : Int) ≤ (last : Int) := by omega
          go_wp2_with fail
          go_meet
          exact ⟨by unfold badE; simp [*], rfl⟩
        · have p1' : ¬ (e.1 : Int) ≤ (last : Int) := by omega
          by_cases p4 : 4294967295 < e.2
          all_goals
            obtain ⟨b4, hb4⟩ : ∃ b, b = decide (4294967295 < e.2) := ⟨_, rfl⟩
          · have p4' : (4294967295 : Int) < (e.2 : Int) := by omega
            by_cases p2 : x.next ≤ e.1
            · have p2' : (x.next : Int) ≤ (e.1 : Int) := by omega
              by_cases p3 : x.next = 4294967295
              · have p3' : ((x.next : Int) != 4294967295) = false := by simp [p3]
                have P3 := Lib.hid p3
                clear p3
                go_wp2_with fail
                go_meet
                have p3 := P3.out
                exact ⟨by unfold badE; simp [*], rfl⟩
              · have p3' : ((x.next : Int) != 4294967295) = true := by simp; omega
                go_wp2_with fail
                go_meet
                exact ⟨by unfold badE; simp [*], rfl⟩
            · have p2' : ¬ (x.next : Int) ≤ (e.1 : Int) := by omega
              go_wp2_with fail
              go_meet
              exact ⟨by unfold badE; simp [*], rfl⟩
          · have p4' : ¬ (4294967295 : Int) < (e.2 : Int) := by omega
            by_cases p2 : x.next ≤ e.1
            · have p2' : (x.next : Int) ≤ (e.1 : Int) := by omega
              by_cases p3 : x.next = 4294967295
              · have p3' : ((x.next : Int) != 4294967295) = false := by simp [p3]
                have P3 := Lib.hid p3
                clear p3
                go_wp2_with fail
                go_meet
                have p3 := P3.out
                exact ⟨by unfold badE; simp [*], rfl⟩
              · have p3' : ((x.next : Int) != 4294967295) = true := by simp; omega
                go_wp2_with fail
                go_meet
                exact ⟨by unfold badE; simp [*], rfl⟩
            · have p2' : ¬ (x.next : Int) ≤ (e.1 : Int) := by omega
              go_wp2_with fail
              go_meet
              exact ⟨by unfold badE; simp [*], rfl⟩
      case rest =>
        obtain ⟨rfl, rfl⟩ := hcut
        have HB2 := Lib.hid (HB.out.trans (HBA.out.mono HB.out.size))
        obtain ⟨bd, hbd⟩ : ∃ b, b = badE x.next last e := ⟨_, rfl⟩
        rw [← hbd]
        have HBD := Lib.hid hbd
        clear hbd
        cases bd
        · go_wp2_with fail
          refine ⟨⟨i + 1, e.1, hlt, by first | rfl | (congr 1), by first | rfl | (congr 1), ?_, HB2.out⟩, by simp [intOf]; omega⟩
          rw [← HST.out, ← HBD.out]; rfl
        · go_wp2_with fail
          go_ret
          refine ⟨?_, HBS.out.trans (HB2.out.mono HBS.out.size)⟩
          rw [HQ.out, ← HST.out, ← HBD.out]; rfl
    · obtain rfl : i = n := by omega
      have hz : idxFrom x.next 0 x.L = true := by
        rw [← HIDX.out, List.drop_eq_nil_of_le (by rw [HLEN.out]; exact Nat.le_refl _)]; rfl
      have HZ := Lib.hid hz
      clear hz
      obtain ⟨k0, hk0⟩ := (HES.out.below HB.out).maxlen
      have HIN := Lib.hid (inamed x.name hs k0 wr hk0)
      clear hk0
      have c0 := cell_later HB.out HC0.out
      go_wp2_with fail
      refine HIN.out.mono ?_
      rintro e w2 ⟨rfl, hb2⟩
      have HB2 := Lib.hid (HB.out.trans (hb2.mono HB.out.size))
      clear hb2 c0
      have c1 := cell_later HB2.out HC1.out
      have c2 := cell_later HB2.out HC2.out
      have c3 := cell_later HB2.out HC3.out
      have c4 := cell_later HB2.out HC4.out
      have hBW := HBS.out.trans (HB2.out.mono HBS.out.size)
      have HBW := Lib.hid hBW
      clear hBW
      have q0 : (0 : Int) ≤ (x.upto : Int) := by omega
      obtain ⟨nm, hnm⟩ : ∃ b, b = named x.name := ⟨_, rfl⟩
      rw [← hnm]
      have HNM := Lib.hid hnm
      clear hnm
      cases nm
      · go_wp2_with fail
        go_ret
        exact ⟨by rw [HQ.out, HZ.out, ← HNM.out]; rfl, HBW.out⟩
      · by_cases p1 : 1 ≤ x.epoch
        · have p1' : (1 : Int) ≤ (x.epoch : Int) := by omega
          by_cases p2 : 1 ≤ x.next
          · have p2' : (1 : Int) ≤ (x.next : Int) := by omega
            by_cases p3 : x.upto ≤ 4294967295
            · have p3' : (x.upto : Int) ≤ 4294967295 := by omega
              by_cases p4 : i ≤ 500
              · have p4' : (i : Int) ≤ 500 := by omega
                go_wp2_with fail
                go_ret
                exact ⟨by rw [HQ.out, HZ.out, ← HNM.out]; simp [*], HBW.out⟩
              · have p4' : ¬ (i : Int) ≤ 500 := by omega
                go_wp2_with fail
                go_ret
                exact ⟨by rw [HQ.out, HZ.out, ← HNM.out]; simp [*], HBW.out⟩
            · have p3' : ¬ (x.upto : Int) ≤ 4294967295 := by omega
              go_wp2_with fail
              go_ret
              exact ⟨by rw [HQ.out, HZ.out, ← HNM.out]; simp [*], HBW.out⟩
          · have p2' : ¬ (1 : Int) ≤ (x.next : Int) := by omega
            go_wp2_with fail
            go_ret
            exact ⟨by rw [HQ.out, HZ.out, ← HNM.out]; simp [*], HBW.out⟩
        · have p1' : ¬ (1 : Int) ≤ (x.epoch : Int) := by omega
          go_wp2_with fail
          go_ret
          exact ⟨by rw [HQ.out, HZ.out, ← HNM.out]; simp [*], HBW.out⟩
end Go.Proofs.YtlhaempecidohaaGreatDoor
namespace Go.Proofs.YtlhaempecidohaaGreatDoor
open Go.RowKit
def badF (last : Nat) (m : Nat × Int) : Bool := decide (m.1 ≤ last) || decide (m.2 < 0) || decide (31 < m.2)
theorem flg_step (last : Nat) (m : Nat × Int) (r : List (Nat × Int)) : flgFrom last (m :: r) = (!badF last m && flgFrom m.1 r) := by
  unfold badF
  show (decide (last < m.1) && decide (0 ≤ m.2) && decide (m.2 ≤ 31) && flgFrom m.1 r) = _
  have h1 : decide (last < m.1) = !decide (m.1 ≤ last) := by by_cases h : last < m.1 <;> simp [h] <;> omega
  have h2 : decide (0 ≤ m.2) = !decide (m.2 < 0) := by by_cases h : 0 ≤ m.2 <;> simp [h] <;> omega
  have h3 : decide (m.2 ≤ 31) = !decide (31 < m.2) := by by_cases h : m.2 ≤ 31 <;> simp [h] <;> omega
  rw [h1, h2, h3]
  cases decide (m.1 ≤ last) <;> cases decide (m.2 < 0) <;> cases decide (31 < m.2) <;> rfl
set_option maxRecDepth 8000 in
set_option maxHeartbeats 3000000 in
theorem rightFlg_any (x : FlgS) (A : Option Addr) (n c : Nat) (w : World) (hr : RowR w A n 2 (x.L.map markV)) (hn : n ≤ 10000000) :
    Calls Tryz.prog 199 #[.agg (flgCells x (.slice A n c)).toArray] w fun e w' => e = .returned (.bool (rightFlg x)) ∧ Below w.heap.size w w' := by
  have hlen : x.L.length = n := by have := hr.len; rwa [List.length_map] at this
  obtain ⟨ws, hws⟩ : ∃ ws, ws = w.alloc (.cells (flgCells x (.slice A n c)).toArray 151) := ⟨_, rfl⟩
  have hbs : Below w.heap.size w ws := by rw [hws]; exact (Below.refl _ _).alloc (Nat.le_refl _) _
  have hg : ws.heap[w.heap.size]? = some (.cells (flgCells x (.slice A n c)).toArray 151 (0, 0)) := by rw [hws]; exact heap_alloc_new w _
  have hq : rightFlg x = (flgFrom 0 x.L && decide (1 ≤ x.epoch) && decide (n ≤ 500)) := by
    unfold rightFlg
    rw [hlen]
  have HQ := Lib.hid hq
  have HR := Lib.hid hr
  have HBS := Lib.hid hbs
  have HLEN : Hid (x.L.length = n) := hlen
  unfold flgCells at hws hg ⊢
  have c0 : ws.cell? ⟨w.heap.size, 0, none⟩ = some (.int .u32 (x.epoch : Int)) := cell_of_row ws _ 0 _ _ _ hg
  have c1 : ws.cell? ⟨w.heap.size, 1, none⟩ = some (.slice A n c) := cell_of_row ws _ 1 _ _ _ hg
  have HWS := Lib.hid hws
  have HC0 := Lib.hid c0
  have HC1 := Lib.hid c1
  clear hq hr hbs hlen hws hg
  go_enter Tryz.func199, Tryz.ntmps199
  go_upto_region 2 with fail
  rw [show w.alloc _ = ws from HWS.out.symm]
  go_wp2_with fail
  go_loopw [3, 9] (fun v3 v9 wr => ∃ (i last : Nat), i ≤ n ∧ v3 = .int .u32 (last : Int) ∧ v9 = .int .i64 (i : Int) ∧ flgFrom last (x.L.drop i) = flgFrom 0 x.L ∧ Below ws.heap.size ws wr) (fun _ v9 _ => n - (intOf v9).toNat)
  case atStart => exact ⟨0, 0, Nat.zero_le _, rfl, rfl, rfl, Below.refl _ _⟩
  case round =>
    obtain ⟨i, last, hi, rfl, rfl, hidx, hb⟩ := hrel
    have HIDX := Lib.hid hidx
    have HB := Lib.hid hb
    clear hidx hb c0 c1
    by_cases hlt : i < n
    · obtain ⟨gA, e, rfl, hxe, hc⟩ := ((HR.out.below HBS.out).below HB.out).map hlt
      obtain ⟨d160, hu, hd⟩ := rowT row160
      have HU := Lib.hid hu
      have HD := Lib.hid hd
      unfold markV at hc
      have HC := Lib.hid hc
      obtain ⟨hil, hie⟩ := List.getElem?_eq_some_iff.1 hxe
      have hst := HIDX.out
      rw [List.drop_eq_getElem_cons hil, hie, flg_step] at hst
      have HST := Lib.hid hst
      clear hu hd hc hxe hil hie hst
      obtain ⟨wa, hwa⟩ : ∃ wa, wa = wr.alloc (.cells #[.int .u32 (e.1 : Int), .int .i64 e.2] 160) := ⟨_, rfl⟩
      have hba : Below wr.heap.size wr wa := by rw [hwa]; exact (Below.refl _ _).alloc (Nat.le_refl _) _
      have a0 : wa.cell? ⟨wr.heap.size, 0, none⟩ = some (.int .u32 (e.1 : Int)) := by rw [hwa]; exact cell_new wr _ 160 rfl
      have a1 : wa.cell? ⟨wr.heap.size, 1, none⟩ = some (.int .i64 e.2) := by rw [hwa]; exact cell_new wr _ 160 rfl
      have HBA := Lib.hid hba
      have HWA := Lib.hid hwa
      clear hba hwa
      go_upto_region 5 with (refine wpList_load_mid rfl 160 (.tmp 11) rfl gA (i * 2) rfl _ d160 HC.out HU.out HD.out size160 ?_)
      rw [← HWA.out]
      go_cut [26] from 13 to 26 (fun v26 wx => v26 = .bool (badF last e) ∧ wx = wa)
      case first =>
        by_cases p1 : e.1 ≤ last
        · have p1' : (e.1 : Int) ≤ (last : Int) := by omega
          go_wp2_with fail
          go_meet
          exact ⟨by unfold badF; simp [*], rfl⟩
        · have p1' : ¬ (e.1 : Int) ≤ (last : Int) := by omega
          by_cases p2 : e.2 < 0
          · go_wp2_with fail
            go_meet
            exact ⟨by unfold badF; simp [*], rfl⟩
          · by_cases p3 : 31 < e.2
            · go_wp2_with fail
              go_meet
              exact ⟨by unfold badF; simp [*], rfl⟩
            · go_wp2_with fail
              go_meet
              exact ⟨by unfold badF; simp [*], rfl⟩
      case rest =>
        obtain ⟨rfl, rfl⟩ := hcut
        have HB2 := Lib.hid (HB.out.trans (HBA.out.mono HB.out.size))
        obtain ⟨bd, hbd⟩ : ∃ b, b = badF last e := ⟨_, rfl⟩
        rw [← hbd]
        have HBD := Lib.hid hbd
        clear hbd
        cases bd
        · go_wp2_with fail
          refine ⟨⟨i + 1, e.1, hlt, by first | rfl | (congr 1), by first | rfl | (congr 1), ?_, HB2.out⟩, by simp [intOf]; omega⟩
          rw [← HST.out, ← HBD.out]; rfl
        · go_wp2_with fail
          go_ret
          refine ⟨?_, HBS.out.trans (HB2.out.mono HBS.out.size)⟩
          rw [HQ.out, ← HST.out, ← HBD.out]; rfl
    · obtain rfl : i = n := by omega
      have hz : flgFrom 0 x.L = true := by
        rw [← HIDX.out, List.drop_eq_nil_of_le (by rw [HLEN.out]; exact Nat.le_refl _)]; rfl
      have HZ := Lib.hid hz
      clear hz
      have c0 := cell_later HB.out HC0.out
      have c1 := cell_later HB.out HC1.out
      have hBW := HBS.out.trans (HB.out.mono HBS.out.size)
      have HBW := Lib.hid hBW
      clear hBW
      by_cases p1 : 1 ≤ x.epoch
      · have p1' : (1 : Int) ≤ (x.epoch : Int) := by omega
        by_cases p4 : i ≤ 500
        · have p4' : (i : Int) ≤ 500 := by omega
          go_wp2_with fail
          go_ret
          exact ⟨by rw [HQ.out, HZ.out]; simp [*], HBW.out⟩
        · have p4' : ¬ (i : Int) ≤ 500 := by omega
          go_wp2_with fail
          go_ret
          exact ⟨by rw [HQ.out, HZ.out]; simp [*], HBW.out⟩
      · have p1' : ¬ (1 : Int) ≤ (x.epoch : Int) := by omega
        go_wp2_with fail
        go_ret
        exact ⟨by rw [HQ.out, HZ.out]; simp [*], HBW.out⟩
end Go.Proofs.YtlhaempecidohaaGreatDoor
