/-
  Package mail: Expunge. slices.IndexFunc, slices.DeleteFunc of messages with the closure of mail.Expunge. Package mail: Expunge. Package mail: Copy.
-/
import Derived.Test.YtlhaempecidohaaGreatDoorJbc
set_option linter.unusedSimpArgs false
set_option linter.unusedVariables false
namespace Go.Proofs.YtlhaempecidohaaGreatDoor
open Go.RowKit
def uV (u : Nat) : List Value := [.int .u32 (u : Int)]
theorem inf35 : (Tryz.prog.info? 35).map (fun i => (i.zero, i.size, i.bytes)) = some (some (.int .u32 0), 1, 4) := by kernel_rfl
theorem und31 : Tryz.prog.underlying 31 = some (.slice 35) := by kernel_rfl
theorem UR.lt {w : World} {A : Option Addr} {n : Nat} {l : List Nat} (h : UR w A n l) (h0 : 0 < n) : ∀ k, blk A = some k → k < w.heap.size := by
  intro k hk
  obtain ⟨ad, x, rfl, -, -, hc⟩ := h.at_ h0
  have hb : (ad.add 0).block = ad.block := by unfold Addr.add; split <;> rfl
  have := World.block_lt_of_cell? _ _ hc
  injection hk with hk
  have hk : ad.block = k := hk
  have hbb : (ad.add 0).block < w.heap.size := this
  omega
theorem UR.only0 {S : Nat → Prop} {w w' : World} {A : Option Addr} {n : Nat} {l : List Nat} (h : UR w A n l) (ho : Only S w w') (hs : 0 < n → ∀ k, blk A = some k → ¬ S k) : UR w' A n l := by
  obtain ⟨h1, h2, h3⟩ := h
  refine ⟨h1, h2, fun hn => ?_⟩
  obtain ⟨ad, rfl, hc⟩ := h3 hn
  refine ⟨ad, rfl, fun j x hj => ho.cell (hc j x hj) ?_⟩
  have hb : (ad.add j).block = ad.block := by unfold Addr.add; split <;> rfl
  rw [hb]
  exact hs hn _ rfl
/-- what the closure of Expunge sees and writes -/
structure GnS (w : World) (ga gu gg : Nat) (al : Bool) (U : Option Addr) (un uc : Nat) (us : List Nat) (G : Option Addr) (k kc : Nat) (gs : List Nat) : Prop where
  ca : w.cell? ⟨ga, 0, none⟩ = some (.bool al)
  cu : w.cell? ⟨gu, 0, none⟩ = some (.slice U un uc)
  ur : UR w U un us
  ub : 0 < un → ∀ q, blk U = some q → q < gg
  cg : w.heap[gg]? = some (.cells #[.slice G k kc] 31 (0, 0))
  row : RowO w (gg + 1) 35 1 G k kc (gs.map uV)
  la : ga < gg
  lu : gu < gg
  gl : ∀ u ∈ gs, u < 4294967296
section
variable {w w' : World} {ga gu gg un uc k kc : Nat} {al : Bool} {U G : Option Addr} {us gs : List Nat}
theorem GnS.keep {S : Nat → Prop} (h : GnS w ga gu gg al U un uc us G k kc gs) (ho : Only S w w') (ha : ¬ S ga) (hu : ¬ S gu) (hg : ¬ S gg) (hU : 0 < un → ∀ q, blk U = some q → ¬ S q) (hG : ∀ q, blk G = some q → ¬ S q) : GnS w' ga gu gg al U un uc us G k kc gs :=
  ⟨ho.cell h.ca ha, ho.cell h.cu hu, h.ur.only0 ho hU, h.ub, ho.heap h.cg hg, h.row.only ho hG, h.la, h.lu, h.gl⟩
theorem GnS.below (h : GnS w ga gu gg al U un uc us G k kc gs) (hb : Below w.heap.size w w') : GnS w' ga gu gg al U un uc us G k kc gs :=
  h.keep (Only.of_below hb (fun _ => False)) (fun h => h) (fun h => h) (fun h => h) (fun _ _ _ h => h) (fun _ _ h => h)
end
theorem gn_more {w w4 w5 : World} {ga gu gg un uc k kc : Nat} {al : Bool} {U G G5 : Option Addr} {us gs : List Nat} {c5 u : Nat} (h : GnS w ga gu gg al U un uc us G k kc gs) (hb4 : Below w.heap.size w w4)
    (hu : u < 4294967296) (hr5 : RowO w5 (gg + 1) 35 1 G5 (k + 1) c5 (gs.map uV ++ [uV u])) (ho5 : Only (fun b => blk G = some b) w4 w5) :
    GnS (w5.setCell ⟨gg, 0, none⟩ (.slice G5 (k + 1) c5)) ga gu gg al U un uc us G5 (k + 1) c5 (gs ++ [u]) ∧ Only (fun b => b = gg ∨ blk G = some b) w (w5.setCell ⟨gg, 0, none⟩ (.slice G5 (k + 1) c5)) := by
  have h4 := h.below hb4
  have hrl : ∀ q, blk G = some q → gg + 1 ≤ q := fun q hq => (h.row.lt q hq).1
  have la := h.la
  have lu := h.lu
  have ho6 : Only (fun b => b = gg) w5 (w5.setCell ⟨gg, 0, none⟩ (.slice G5 (k + 1) c5)) := (Only.refl (fun b => b = gg) w5).setCell (p := ⟨gg, 0, none⟩) (.inl rfl) _
  refine ⟨⟨?_, ?_, ?_, h.ub, ?_, ?_, la, lu, fun y hy => by
    rcases List.mem_append.1 hy with hy | hy
    · exact h.gl y hy
    · rw [List.mem_singleton.1 hy]; exact hu⟩, ?_⟩
  · exact ho6.cell (ho5.cell h4.ca (fun e => by have := hrl _ e; simp only at this; omega)) (by simp only; omega)
  · exact ho6.cell (ho5.cell h4.cu (fun e => by have := hrl _ e; simp only at this; omega)) (by simp only; omega)
  · exact (h4.ur.only0 ho5 (fun h0 q hq e => by have := hrl _ e; have := h.ub h0 q hq; omega)).only0 ho6 (fun h0 q hq e => by have := h.ub h0 q hq; omega)
  · exact blk_set (ho5.heap h4.cg (fun e => by have := hrl _ e; omega)) 0 _
  · rw [List.map_append]
    exact hr5.only ho6 (fun q hq e => by have := (hr5.lt q hq).1; omega)
  · exact ((Only.of_below hb4 (fun b => b = gg ∨ blk G = some b)).trans ho5 (fun _ _ h => .inr h)).trans ho6 (fun _ _ h => .inl h)
/-- what the closure leaves -/
def GnE (w : World) (ga gu gg : Nat) (al : Bool) (U : Option Addr) (un uc : Nat) (us : List Nat) (G : Option Addr) (k : Nat) (e : Ending) (w' : World) : Prop :=
  ∃ b G' k' kc' gs', e = .returned (.bool b) ∧ GnS w' ga gu gg al U un uc us G' k' kc' gs' ∧ k' ≤ k + 1 ∧ Only (fun q => q = gg ∨ blk G = some q) w w'
set_option maxRecDepth 8000 in
set_option maxHeartbeats 2000000 in
theorem gone_clo (ga gu gg un uc k kc : Nat) (al : Bool) (U G : Option Addr) (us gs : List Nat) (x : Msg) (o : Value) (h1 : o.oneCell' = true) (w : World) (h : GnS w ga gu gg al U un uc us G k kc gs) (hun : un ≤ 1000000000) (hk : k ≤ 10000000) (hxu : x.uid < 4294967296) :
    Calls Tryz.prog 134 #[.agg (msgCells x o).toArray, .pointer (some ⟨ga, 0, none⟩), .pointer (some ⟨gu, 0, none⟩), .pointer (some ⟨gg, 0, none⟩)] w (GnE w ga gu gg al U un uc us G k) := by
  unfold msgCells
  obtain ⟨ws, hws⟩ : ∃ ws, ws = w.alloc (.cells #[.int .u32 (x.uid : Int), .int .i64 x.date, .int .i64 x.flags, o] 37) := ⟨_, rfl⟩
  have hbs : Below w.heap.size w ws := by rw [hws]; exact (Below.refl _ _).alloc (Nat.le_refl _) _
  have a0 : ws.cell? ⟨w.heap.size, 0, none⟩ = some (.int .u32 (x.uid : Int)) := by rw [hws]; exact cell_new w _ 37 rfl
  have a2 : ws.cell? ⟨w.heap.size, 2, none⟩ = some (.int .i64 x.flags) := by rw [hws]; exact cell_new w _ 37 rfl
  have hgs := h.below hbs
  have ca := hgs.ca
  have cu := hgs.cu
  have cg : ws.cell? ⟨gg, 0, none⟩ = some (.slice G k kc) := cell_of_row ws _ 0 _ _ _ hgs.cg
  have cf : ∀ j, ws.frozen? ⟨gg, j, none⟩ = false := fun j => by simp [World.frozen?, hgs.cg]
  have hlt : gg < w.heap.size := (Array.getElem?_eq_some_iff.1 h.cg).1
  have hsl : ws.heap.size = w.heap.size + 1 := by rw [hws]; simp
  have hlt' : gg < ws.heap.size := by omega
  have HGS := Lib.hid hgs
  have HBS := Lib.hid hbs
  have HWS := Lib.hid hws
  have HUC := Lib.hid (ucontains_any U un uc x.uid us ws hgs.ur hun)
  clear hws hbs hgs h hsl
  go_enter Tryz.func134, Tryz.ntmps134
  go_upto_region 1 with fail
  rw [← HWS.out]
  obtain ⟨bd, hbd⟩ : ∃ b, (bits .and .i64 x.flags 8 != 0) = b := ⟨_, rfl⟩
  go_cut [6] from 7 to 19 (fun v6 wx => (∃ b, v6 = .bool b) ∧ wx = ws)
  case first =>
    cases bd
    · go_wp2_with fail
      go_meet
      exact ⟨⟨_, rfl⟩, rfl⟩
    · cases al
      · go_wp2_with (go_at_call 131; refine HUC.out.mono ?_; rintro e wb ⟨⟨b, rfl⟩, rfl⟩)
        go_meet
        exact ⟨⟨_, rfl⟩, rfl⟩
      · go_wp2_with fail
        go_meet
        exact ⟨⟨_, rfl⟩, rfl⟩
  case rest =>
    obtain ⟨⟨b, rfl⟩, rfl⟩ := hcut
    clear hbd
    have hgw : gg ≤ w.heap.size := by omega
    cases b
    · go_wp2_with fail
      go_ret
      exact ⟨false, G, k, kc, gs, rfl, HGS.out, by omega, Only.of_below HBS.out _⟩
    · go_wp2_with (at_builtin; refine wp_append_row rfl (.tmp 21) (.tmp 24) 31 35 1 _ 4 und31 inf35 rfl (by decide) (by decide) rfl rfl rfl (HGS.out.row.below ((Below.refl _ _).alloc (Nat.le_refl _) _)) (range_new _ (uV x.uid) 35) rfl (by simp [uV, Value.oneCell']) (by omega) (by simp; omega) ?_; intro G5 c5 w5 hro5 ho5 hbk5; have HRO5 := Lib.hid hro5; have HO5 := Lib.hid ho5; have hb4 := (Below.refl wc.heap.size wc).alloc (Nat.le_refl _) (.cells (uV x.uid).toArray 35); have HB4 := Lib.hid hb4; have h15 := ho5.heap ((hb4.block _ hlt').trans HGS.out.cg) (fun e => by have := (HGS.out.row.lt _ e).1; omega); have H15 := Lib.hid h15; have m3 : w5.cell? ⟨gg, 0, none⟩ = some (.slice G k kc) := cell_of_row w5 _ 0 _ _ _ H15.out; have mf : ∀ j, w5.frozen? ⟨gg, j, none⟩ = false := (fun j => by simp [World.frozen?, H15.out]); clear hro5 ho5 hbk5 h15 hb4)
      go_ret
      obtain ⟨p1, p2⟩ := gn_more HGS.out HB4.out hxu HRO5.out HO5.out
      refine ⟨true, G5, k + 1, c5, gs ++ [x.uid], rfl, p1, Nat.le_refl _, (Only.of_below HBS.out _).trans p2 (fun q _ h => h)⟩
end Go.Proofs.YtlhaempecidohaaGreatDoor
namespace Go.Proofs.YtlhaempecidohaaGreatDoor
open Go.RowKit
theorem z37 (w : World) : (zeroValue 37).run Tryz.prog w = .ok (.agg #[.int .u32 0, .int .i64 0, .int .i64 0, .slice none 0 0]) w := by kernel_rfl
theorem msg_one (x : Msg) (B : Option Addr) (m d : Nat) : #[Value.int .u32 (x.uid : Int), .int .i64 x.date, .int .i64 x.flags, .slice B m d].all (·.oneCell') = true := by simp [Value.oneCell']
set_option maxRecDepth 8000 in
set_option maxHeartbeats 1000000 in
theorem idxGone_any (ga gu gg un uc k kc : Nat) (al : Bool) (U G : Option Addr) (us gs : List Nat) (A : Option Addr) (n c : Nat) (vs : List (List Value)) (ms : List Msg) (w : World) (h : GnS w ga gu gg al U un uc us G k kc gs) (hun : un ≤ 1000000000)
    (hr : RowR w A n 4 vs) (hx : All2 MsgV vs ms) (hn : n ≤ 1000) (hk : k ≤ 1000) (hA : ∀ q, blk A = some q → q < gg) :
    Calls Tryz.prog 190 #[.slice A n c, .func (Fn.func 134) #[] #[.pointer (some ⟨ga, 0, none⟩), .pointer (some ⟨gu, 0, none⟩), .pointer (some ⟨gg, 0, none⟩)]] w fun e w' =>
      (∃ (G' : Option Addr) (k' kc' : Nat) (gs' : List Nat) (z : Int), e = .returned (.int .i64 z) ∧ (z = -1 ∨ ∃ i : Nat, i < n ∧ z = (i : Int)) ∧ GnS w' ga gu gg al U un uc us G' k' kc' gs' ∧ k' ≤ k + n ∧ (∀ i : Nat, z = (i : Int) → k' ≤ k + (i + 1))) ∧ Only (fun q => gg ≤ q) w w' := by
  have HR := Lib.hid hr
  have HX := Lib.hid hx
  have HS := Lib.hid h
  have HA := Lib.hid hA
  clear hr hx h hA
  go_enter Tryz.func190, Tryz.ntmps190
  go_wp2_with fail
  go_loopw [8] (fun v8 wr => ∃ (i : Nat) (G' : Option Addr) (k' kc' : Nat) (gs' : List Nat), i ≤ n ∧ v8 = .int .i64 (i : Int) ∧ GnS wr ga gu gg al U un uc us G' k' kc' gs' ∧ k' ≤ k + i ∧ Only (fun q => gg ≤ q) w wr) (fun v8 _ => n - (intOf v8).toNat)
  case atStart => exact ⟨0, G, k, kc, gs, Nat.zero_le _, rfl, HS.out, Nat.le_refl _, Only.refl _ _⟩
  case round =>
    obtain ⟨i, G', k', kc', gs', hi, rfl, hs, hkk, ho⟩ := hrel
    have HSR := Lib.hid hs
    have HO := Lib.hid ho
    clear hs ho
    by_cases hlt : i < n
    · obtain ⟨g, v, rfl, hv, hvl, hc⟩ := (HR.out.only HO.out (fun q hq e => by have := HA.out q hq; omega)).at_ hlt
      obtain ⟨x, hxi, B, m, d, rfl, hxu⟩ := HX.out.left hv
      have hcl := gone_clo ga gu gg un uc k' kc' al U G' us gs' x (.slice B m d) rfl wr HSR.out hun (by omega) hxu
      obtain ⟨d37, hu, hd⟩ := rowT row37
      have HU := Lib.hid hu
      have HD := Lib.hid hd
      unfold msgCells at hc hcl
      have HC := Lib.hid hc
      have HCL := Lib.hid hcl
      clear hv hvl hc hcl hxi hu hd
      go_wp2_with (refine wpList_load_mid rfl 37 (.tmp 14) rfl g (i * 4) rfl _ d37 HC.out HU.out HD.out size37 ?_)
      refine HCL.out.mono ?_
      rintro e w1 ⟨b, G5, k5, c5, gs5, rfl, hs5, hk5, ho5⟩
      have HS5 := Lib.hid hs5
      have HO5 := Lib.hid (HO.out.trans ho5 (fun q _ h => by
        rcases h with h | h
        · omega
        · have := (HSR.out.row.lt q h).1; omega))
      clear hs5 ho5
      cases b
      · go_wp2_with fail
        exact ⟨⟨i + 1, G5, k5, c5, gs5, hlt, by first | rfl | (congr 1), HS5.out, by omega, HO5.out⟩, by simp [intOf]; omega⟩
      · go_wp2_with fail
        go_ret
        exact ⟨⟨G5, k5, c5, gs5, (i : Int), rfl, .inr ⟨i, hlt, rfl⟩, HS5.out, by omega, fun j hj => by omega⟩, HO5.out⟩
    · go_wp2_with fail
      go_ret
      exact ⟨⟨G', k', kc', gs', -1, rfl, .inl rfl, HSR.out, by omega, fun j hj => by omega⟩, HO.out⟩
set_option maxRecDepth 8000 in
set_option maxHeartbeats 2000000 in
theorem delGone_any (ga gu gg un uc k kc : Nat) (al : Bool) (U G : Option Addr) (us gs : List Nat) (base : Nat) (A : Option Addr) (n c : Nat) (vs : List (List Value)) (ms : List Msg) (w : World) (h : GnS w ga gu gg al U un uc us G k kc gs) (hun : un ≤ 1000000000)
    (hr : RowO w base 37 4 A n c vs) (hx : All2 MsgV vs ms) (hn : n ≤ 1000) (hk : k = 0) (hA : ∀ q, blk A = some q → q < gg ∧ q ≠ ga ∧ q ≠ gu ∧ (0 < un → blk U ≠ some q)) :
    Calls Tryz.prog 133 #[.slice A n c, .func (Fn.func 134) #[] #[.pointer (some ⟨ga, 0, none⟩), .pointer (some ⟨gu, 0, none⟩), .pointer (some ⟨gg, 0, none⟩)]] w fun e w' =>
      ∃ (G' : Option Addr) (k' kc' : Nat) (gs' : List Nat) (m : Nat) (vs' : List (List Value)) (ms' : List Msg), e = .returned (.slice A m c) ∧ m ≤ n ∧ RowO w' base 37 4 A m c vs' ∧ All2 MsgV vs' ms' ∧ GnS w' ga gu gg al U un uc us G' k' kc' gs' ∧ k' ≤ n ∧ Only (fun q => gg ≤ q ∨ blk A = some q) w w' := by
  have hI := idxGone_any ga gu gg un uc k kc al U G us gs A n c vs ms w h hun hr.read hx hn (by omega) (fun q hq => (hA q hq).1)
  have HR := Lib.hid hr
  have HX := Lib.hid hx
  have HI := Lib.hid hI
  have HA := Lib.hid hA
  clear hr hx h hA hI
  go_enter Tryz.func133, Tryz.ntmps133
  go_wp2_with fail
  refine HI.out.mono ?_
  rintro e w1 ⟨⟨G1, k1, kc1, gs1, z, rfl, hz, hs1, hk1, hk1'⟩, ho1⟩
  have hr1 := HR.out.only ho1 (fun q hq e => by have := (HA.out q hq).1; omega)
  rcases hz with rfl | ⟨i0, hi0, rfl⟩
  · have HS1 := Lib.hid hs1
    have HO1 := Lib.hid ho1
    have HR1 := Lib.hid hr1
    clear hs1 ho1 hr1 hk1'
    go_wp2_with fail
    go_ret
    exact ⟨G1, k1, kc1, gs1, n, vs, ms, rfl, Nat.le_refl _, HR1.out, HX.out, HS1.out, by omega, HO1.out.mono (fun q h => .inl h)⟩
  · obtain ⟨g, hAg⟩ := HR.out.form (by omega)
    subst hAg
    have hk2 := hk1' i0 rfl
    have HS1 := Lib.hid hs1
    have HO1 := Lib.hid (ho1.mono (S' := fun q => gg ≤ q ∨ q = g) (fun q h => .inl h))
    have HR1 := Lib.hid hr1
    have hne : ((i0 : Int) == -1) = false := by simp
    have hgA := HA.out g rfl
    have HGA := Lib.hid hgA
    clear hs1 ho1 hr1 hk1' hgA
    obtain ⟨d37, hu, hd⟩ := rowT row37
    have HU := Lib.hid hu
    have HD := Lib.hid hd
    clear hu hd
    have hnc := HR.out.le
    go_wp2_with fail
    go_loopw [5, 6] (fun v5 v6 wr => ∃ (i j : Nat) (vs' : List (List Value)) (ms' : List Msg) (G' : Option Addr) (k' kc' : Nat) (gs' : List Nat), v5 = .int .i64 (i : Int) ∧ v6 = .int .i64 (j : Int) ∧ i < j ∧ j ≤ n ∧ RowO wr base 37 4 (some ⟨g, 0, none⟩) n c vs' ∧ All2 MsgV vs' ms' ∧ GnS wr ga gu gg al U un uc us G' k' kc' gs' ∧ k' ≤ j ∧ Only (fun q => gg ≤ q ∨ q = g) w wr) (fun _ v6 _ => n - (intOf v6).toNat)
    case atStart => exact ⟨i0, i0 + 1, vs, ms, G1, k1, kc1, gs1, rfl, by simp, by omega, by omega, HR1.out, HX.out, HS1.out, by omega, HO1.out⟩
    case round =>
      obtain ⟨i, j, vs', ms', G', k', kc', gs', rfl, rfl, hij, hj, hro, hall, hs, hkj, ho⟩ := hrel
      have HRO := Lib.hid hro
      have HALL := Lib.hid hall
      have HSR := Lib.hid hs
      have HO := Lib.hid ho
      clear hro hall hs ho
      by_cases hlt : j < n
      · obtain ⟨g', v, hA, hv, hvl, hc⟩ := HRO.out.read.at_ hlt
        injection hA with hA
        injection hA with hA
        subst hA
        obtain ⟨x, hxi, B, m, d, rfl, hxu⟩ := HALL.out.left hv
        obtain ⟨wa, hwa⟩ : ∃ wa, wa = wr.alloc (.cells #[.int .u32 (x.uid : Int), .int .i64 x.date, .int .i64 x.flags, .slice B m d] 37) := ⟨_, rfl⟩
        have hba : Below wr.heap.size wr wa := by rw [hwa]; exact (Below.refl _ _).alloc (Nat.le_refl _) _
        have a0 : wa.cell? ⟨wr.heap.size, 0, none⟩ = some (.int .u32 (x.uid : Int)) := by rw [hwa]; exact cell_new wr _ 37 rfl
        have a1 : wa.cell? ⟨wr.heap.size, 1, none⟩ = some (.int .i64 x.date) := by rw [hwa]; exact cell_new wr _ 37 rfl
        have a2 : wa.cell? ⟨wr.heap.size, 2, none⟩ = some (.int .i64 x.flags) := by rw [hwa]; exact cell_new wr _ 37 rfl
        have a3 : wa.cell? ⟨wr.heap.size, 3, none⟩ = some (.slice B m d) := by rw [hwa]; exact cell_new wr _ 37 rfl
        have hsa := HSR.out.below hba
        have hcl := gone_clo ga gu gg un uc k' kc' al U G' us gs' x (.slice B m d) rfl wa hsa hun (by omega) hxu
        unfold msgCells at hc hcl
        have hlg : gg < wr.heap.size := (Array.getElem?_eq_some_iff.1 HSR.out.cg).1
        have hGl : ∀ q, blk G' = some q → q < wr.heap.size := fun q hq => (HSR.out.row.lt q hq).2
        have HC := Lib.hid hc
        have HCL := Lib.hid hcl
        have HBA := Lib.hid hba
        have HWA := Lib.hid hwa
        clear hv hvl hc hcl hxi hba hwa hsa hGl
        go_wp2_with (refine wpList_load_mid rfl 37 (.tmp 24) rfl g (j * 4) rfl _ d37 HC.out HU.out HD.out size37 ?_)
        rw [← HWA.out]
        refine HCL.out.mono ?_
        rintro e w5 ⟨b, G5, k5, c5, gs5, rfl, hs5, hk5, ho5⟩
        have hnS : ¬ (wr.heap.size = gg ∨ blk G' = some wr.heap.size) := fun e => by
          rcases e with e | e
          · omega
          · have := (HSR.out.row.lt _ e).2; omega
        have a0 := ho5.cell a0 hnS
        have a1 := ho5.cell a1 hnS
        have a2 := ho5.cell a2 hnS
        have a3 := ho5.cell a3 hnS
        have hrl := HSR.out.row.lt
        have hgg : ∀ q, (q = gg ∨ blk G' = some q) → gg ≤ q := fun q h => by
          rcases h with h | h
          · omega
          · have := (hrl q h).1; omega
        have hro5 := (HRO.out.below HBA.out).only ho5 (fun q hq e => by have := hgg q e; have := HGA.out.1; injection hq with hq; have hq : g = q := hq; omega)
        have hon5 := (HO.out.trans (Only.of_below HBA.out (fun q => gg ≤ q ∨ q = g)) (fun _ _ h => h)).trans ho5 (fun q _ h => .inl (hgg q h))
        have HS5 := Lib.hid hs5
        have HRO5 := Lib.hid hro5
        have HON5 := Lib.hid hon5
        clear hs5 ho5 hnS hrl hgg hro5 hon5
        cases b
        · go_wp2_with (refine wp_store_row rfl 37 (.tmp 33) (.tmp 32) rfl g i #[.int .u32 (x.uid : Int), .int .i64 x.date, .int .i64 x.flags, .slice B m d] rfl rfl HRO5.out (by omega) rfl size37 (msg_one x B m d) ?_; intro w6 hro6 ho6; have HRO6 := Lib.hid hro6; have HO6 := Lib.hid ho6; clear hro6 ho6)
          have hga := HGA.out
          have hs6 := HS5.out.keep HO6.out (fun e => hga.2.1 e.symm) (fun e => hga.2.2.1 e.symm) (fun e => by omega) (fun h0 q hq e => hga.2.2.2 h0 (by rw [hq, e])) (fun q hq e => by have := (HS5.out.row.lt q hq).1; omega)
          refine ⟨⟨i + 1, j + 1, _, ms'.set i x, G5, k5, c5, gs5, rfl, rfl, by omega, hlt, HRO6.out, HALL.out.set i ⟨B, m, d, rfl, hxu⟩, hs6, by omega, ?_⟩, by simp [intOf]; omega⟩
          exact HON5.out.trans HO6.out (fun q _ h => .inr h)
        · go_wp2_with fail
          exact ⟨⟨i, j + 1, vs', ms', G5, k5, c5, gs5, rfl, rfl, by omega, hlt, HRO5.out, HALL.out, HS5.out, by omega, HON5.out⟩, by simp [intOf]; omega⟩
      · obtain rfl : j = n := by omega
        have sl : ∀ w', (Instr.slice 47 (.slice (some ⟨g, 0, none⟩) j c) (some (.int .i64 (i : Int))) none none).run Tryz.prog w' = .ok (.slice (some ⟨g, i * 4, none⟩) (j - i) (c - i)) w' := slice_row_l und47 inf37 g j c i hij hnc
        have sh : ∀ w', (Instr.slice 47 (.slice (some ⟨g, 0, none⟩) j c) none (some (.int .i64 (i : Int))) none).run Tryz.prog w' = .ok (.slice (some ⟨g, 0, none⟩) i c) w' := slice_row_h und47 inf37 _ j c i (by omega)
        go_wp2_with (refine wp_clear_tail rfl (.tmp 38) 47 37 4 _ rfl und47 z37 rfl (by simp [Value.cells, Value.oneCell']) g i rfl HRO.out hij ?_; intro w3 hro3 ho3; have HRO3 := Lib.hid hro3; have HO3 := Lib.hid ho3; clear hro3 ho3)
        go_ret
        have hga := HGA.out
        have hs6 := HSR.out.keep HO3.out (fun e => hga.2.1 e.symm) (fun e => hga.2.2.1 e.symm) (fun e => by omega) (fun h0 q hq e => hga.2.2.2 h0 (by rw [hq, e])) (fun q hq e => by have := (HSR.out.row.lt q hq).1; omega)
        refine ⟨G', k', kc', gs', i, vs'.take i, ms'.take i, rfl, by omega, HRO3.out, HALL.out.take i, hs6, by omega, ?_⟩
        exact (HO.out.trans HO3.out (fun q _ h => .inr h)).mono (fun q h => by
          rcases h with h | h
          · exact .inl h
          · exact .inr (by rw [h]; rfl))
end Go.Proofs.YtlhaempecidohaaGreatDoor
namespace Go.Proofs.YtlhaempecidohaaGreatDoor
open Go.RowKit
/-- what Expunge hands back -/
def ExpE (w : World) (nm : ByteArray) (ep nx n : Nat) (e : Ending) (w' : World) : Prop :=
  ∃ (A : Option Addr) (m c : Nat) (vs : List (List Value)) (ms : List Msg) (G : Option Addr) (k kc : Nat) (gs : List Nat), e = .returned (.tuple #[.agg (boxCells nm ep nx (.slice A m c)).toArray, .slice G k kc, .int .i64 0]) ∧ m ≤ n ∧ RowO w' w.heap.size 37 4 A m c vs ∧ All2 MsgV vs ms ∧
    k ≤ n ∧ RowO w' w.heap.size 35 1 G k kc (gs.map uV) ∧ (∀ u ∈ gs, u < 4294967296) ∧ Below w.heap.size w w'
set_option maxRecDepth 8000 in
set_option maxHeartbeats 3000000 in
theorem expunge_any (nm : ByteArray) (ep nx : Nat) (A U : Option Addr) (n c un uc : Nat) (vs : List (List Value)) (ms : List Msg) (us : List Nat) (al : Bool) (w : World) (hb : rightBox ⟨nm, ep, nx, ms⟩ = true) (hnx : nx < 4294967296)
    (hr : RowR w A n 4 vs) (hx : All2 (MsgR w) vs ms) (hu : UR w U un us) (hun : un ≤ 1000000000) (hE : Env w) :
    Calls Tryz.prog 72 #[.agg (boxCells nm ep nx (.slice A n c)).toArray, .slice U un uc, .bool al] w (ExpE w nm ep nx n) := by
  have hnl : ms.length = n := by rw [← hx.length]; exact hr.len
  have hbp := rightBox_parts hb
  have h500 := hbp.2.2.2.1
  dsimp only at h500
  rw [hnl] at h500
  have hoct : ∀ y ∈ ms, y.oct.length ≤ 10000000 := fun y hy => by have := (boxFrom_lt hbp.2.2.2.2 y hy).2.2.2; omega
  have huid : ∀ y ∈ ms, y.uid < 4294967296 := fun y hy => by have := (boxFrom_lt hbp.2.2.2.2 y hy).2.1; dsimp only at this; omega
  have HUID := Lib.hid huid
  clear huid
  unfold boxCells
  obtain ⟨wx1, hwx1⟩ : ∃ x, x = w.alloc (.cells #[.string nm, .int .u32 (ep : Int), .int .u32 (nx : Int), .slice A n c] 49) := ⟨_, rfl⟩
  obtain ⟨wx2, hwx2⟩ : ∃ x, x = wx1.alloc (.cells #[.slice U un uc] 31) := ⟨_, rfl⟩
  obtain ⟨wx3, hwx3⟩ : ∃ x, x = wx2.alloc (.cells #[.bool al] 4) := ⟨_, rfl⟩
  obtain ⟨ws, hws⟩ : ∃ x, x = wx3.alloc (.cells #[.string ⟨#[]⟩, .int .u32 0, .int .u32 0, .slice none 0 0] 49) := ⟨_, rfl⟩
  have z1 : wx1.heap.size = w.heap.size + 1 := by rw [hwx1]; simp
  have z2 : wx2.heap.size = w.heap.size + 1 + 1 := by rw [hwx2, World.size_alloc, z1]
  have z3 : wx3.heap.size = w.heap.size + 1 + 1 + 1 := by rw [hwx3, World.size_alloc, z2]
  have z4 : ws.heap.size = w.heap.size + 1 + 1 + 1 + 1 := by rw [hws, World.size_alloc, z3]
  have v1 : Below w.heap.size w wx1 := by rw [hwx1]; exact (Below.refl _ _).alloc (Nat.le_refl _) _
  have v2 : Below wx1.heap.size wx1 wx2 := by rw [hwx2]; exact (Below.refl _ _).alloc (Nat.le_refl _) _
  have v3 : Below wx2.heap.size wx2 wx3 := by rw [hwx3]; exact (Below.refl _ _).alloc (Nat.le_refl _) _
  have v4 : Below wx3.heap.size wx3 ws := by rw [hws]; exact (Below.refl _ _).alloc (Nat.le_refl _) _
  have v34 : Below wx2.heap.size wx2 ws := v3.trans (v4.mono v3.size)
  have v24 : Below wx1.heap.size wx1 ws := v2.trans (v34.mono v2.size)
  have hbs : Below w.heap.size w ws := v1.trans (v24.mono v1.size)
  have hg0 : ws.heap[w.heap.size]? = some (.cells #[.string nm, .int .u32 (ep : Int), .int .u32 (nx : Int), .slice A n c] 49 (0, 0)) := by
    rw [v24.block _ (by omega), hwx1]; exact heap_alloc_new w _
  have hg1 : ws.heap[w.heap.size + 1]? = some (.cells #[.slice U un uc] 31 (0, 0)) := by
    rw [v34.block _ (by omega), hwx2, ← z1]; exact heap_alloc_new wx1 _
  have hg2 : ws.heap[w.heap.size + 1 + 1]? = some (.cells #[.bool al] 4 (0, 0)) := by
    rw [v4.block _ (by omega), hwx3, ← z2]; exact heap_alloc_new wx2 _
  have hg3 : ws.heap[w.heap.size + 1 + 1 + 1]? = some (.cells #[.string ⟨#[]⟩, .int .u32 0, .int .u32 0, .slice none 0 0] 49 (0, 0)) := by
    rw [hws, ← z3]; exact heap_alloc_new wx3 _
  have hwsx : ws = (((w.alloc (.cells #[.string nm, .int .u32 (ep : Int), .int .u32 (nx : Int), .slice A n c] 49)).alloc (.cells #[.slice U un uc] 31)).alloc (.cells #[.bool al] 4)).alloc (.cells #[.string ⟨#[]⟩, .int .u32 0, .int .u32 0, .slice none 0 0] 49) := by rw [hws, hwx3, hwx2, hwx1]
  have hxs : All2 (MsgR ws) vs ms := hx.mono (MsgR.below hbs)
  have hRY := mright_yes nm ep nx A n c vs ms ws hb (hr.below hbs) hxs (hE.below hbs)
  have hC := fun w2 (h2 : Below ws.heap.size ws w2) => clone_any nm ep nx A n c vs ms w2 ((hr.below hbs).below h2) (hxs.mono (MsgR.below h2)) (by omega) hoct
  have hub : 0 < un → ∀ q, blk U = some q → q < w.heap.size := fun h0 => hu.lt h0
  unfold boxCells at hRY hC
  have HRY := Lib.hid hRY
  have HC := Lib.hid hC
  have HU := Lib.hid (hu.below hbs)
  have HUB := Lib.hid hub
  have HG0 := Lib.hid hg0
  have HG1 := Lib.hid hg1
  have HG2 := Lib.hid hg2
  have HG3 := Lib.hid hg3
  have HBS := Lib.hid hbs
  have HWS := Lib.hid hwsx
  have HSS := Lib.hid z4
  have HNL : Hid (ms.length = n) := hnl
  have b0 := cell_of_row ws _ 0 _ _ _ hg0
  have b1 := cell_of_row ws _ 1 _ _ _ hg0
  have b2 := cell_of_row ws _ 2 _ _ _ hg0
  have b3 := cell_of_row ws _ 3 _ _ _ hg0
  clear hnl hbp hoct hws hbs hg0 hg1 hg2 hg3 hxs hRY hC hb hr hx hu hE hub hwsx v1 v2 v3 v4 v34 v24 z1 z2 z3 z4 hwx1 hwx2 hwx3
  clear wx1 wx2 wx3
  go_enter Tryz.func72, Tryz.ntmps72
  go_upto_region 1 with fail
  rw [← HWS.out]
  go_wp2_with fail
  refine HRY.out.mono ?_
  rintro e w1 ⟨rfl, hb1⟩
  have b0 := cell_later hb1 b0
  have b1 := cell_later hb1 b1
  have b2 := cell_later hb1 b2
  have b3 := cell_later hb1 b3
  have HC1 := Lib.hid (HC.out w1 hb1)
  have HB1 := Lib.hid hb1
  clear hb1 HC HRY
  go_wp2_with fail
  refine HC1.out.mono ?_
  rintro e w2 ⟨A', n', c', us', rfl, hro, hal, hb2, -⟩
  have hn' : n' = n := by rw [← hro.len, hal.length, HNL.out]
  subst hn'
  obtain ⟨w3, hw3⟩ : ∃ w3, w3 = (w2.alloc (.cells #[.string nm, .int .u32 (ep : Int), .int .u32 (nx : Int), .slice A' n' c'] 49)).alloc (.cells #[.slice none 0 0] 31) := ⟨_, rfl⟩
  have hb3 : Below w2.heap.size w2 w3 := by rw [hw3]; exact ((Below.refl _ _).alloc (Nat.le_refl _) _).alloc (by simp) _
  have h39 : w3.heap[w2.heap.size]? = some (.cells (boxCells nm ep nx (.slice A' n' c')).toArray 49 (0, 0)) := by
    rw [hw3, Below.heap_alloc _ _ _ (by simp)]; exact heap_alloc_new w2 _
  have h3g : w3.heap[w2.heap.size + 1]? = some (.cells #[.slice none 0 0] 31 (0, 0)) := by
    rw [hw3]
    have := heap_alloc_new (w2.alloc (.cells #[.string nm, .int .u32 (ep : Int), .int .u32 (nx : Int), .slice A' n' c'] 49)) (.cells #[.slice none 0 0] 31)
    rwa [World.size_alloc] at this
  have hM3 : BoxV w3 w1.heap.size w2.heap.size A' n' c' nm ep nx us' ms :=
    ⟨h39, hro.below hb3, MsgA.v hal HUID.out, fun e => by have := (hro.lt _ e).2; omega⟩
  have hbw3 : Below ws.heap.size ws w3 := HB1.out.trans ((hb2.trans (hb3.mono hb2.size)).mono HB1.out.size)
  have hs1 : w.heap.size + 1 + 1 + 1 + 1 ≤ w1.heap.size := by rw [← HSS.out]; exact HB1.out.size
  have hs2 := hb2.size
  have hal2 : ∀ q, blk A' = some q → w1.heap.size ≤ q ∧ q < w2.heap.size := hro.lt
  have hlk : ∀ i, i < w.heap.size + 1 + 1 + 1 + 1 → w3.heap[i]? = ws.heap[i]? := fun i hi => hbw3.block i (by rw [HSS.out]; exact hi)
  have hG : GnS w3 (w.heap.size + 1 + 1) (w.heap.size + 1) (w2.heap.size + 1) al U un uc us none 0 0 [] := by
    refine ⟨cell_of_row w3 _ 0 _ _ _ ((hlk _ (by omega)).trans HG2.out), cell_of_row w3 _ 0 _ _ _ ((hlk _ (by omega)).trans HG1.out), HU.out.below hbw3, fun h0 q hq => by have := HUB.out h0 q hq; omega, h3g, RowO.nil _ _ _ _, by omega, by omega, by simp⟩
  have hD := delGone_any (w.heap.size + 1 + 1) (w.heap.size + 1) (w2.heap.size + 1) un uc 0 0 al U none us [] w1.heap.size A' n' c' us' ms w3 hG hun hM3.row hM3.all (by omega) rfl (fun q hq => by
    have h := hal2 q hq
    refine ⟨by omega, by omega, by omega, fun h0 e => by have := HUB.out h0 q e; omega⟩)
  have hq3 := (hlk _ (by omega)).trans HG3.out
  have HD := Lib.hid hD
  have HM3 := Lib.hid hM3
  have HBW3 := Lib.hid hbw3
  have HQ3 := Lib.hid hq3
  have HAL2 := Lib.hid hal2
  have HW3 := Lib.hid hw3
  have k3 : w3.cell? ⟨w2.heap.size, 3, none⟩ = some (.slice A' n' c') := cell_of_row w3 _ 3 _ _ _ hM3.blk
  clear hw3 hb3 hM3 hbw3 hro hal hb2 b0 b1 b2 b3 h39 h3g hal2 hlk hG hD hq3
  unfold boxCells
  go_upto_region 5 with fail
  rw [← HW3.out]
  go_wp2_with fail
  refine HD.out.mono ?_
  rintro e w4 ⟨G, k, kc, gs, m, vs', ms', rfl, hmn, hro, hall, hgs, hkn, ho⟩
  have hal2 := HAL2.out
  have hne9 : ¬ (w2.heap.size + 1 ≤ w2.heap.size ∨ blk A' = some w2.heap.size) := fun e => by
    rcases e with e | e
    · omega
    · have := (hal2 _ e).2; omega
  have hblk := ho.heap HM3.out.blk hne9
  have k3 : w4.cell? ⟨w2.heap.size, 3, none⟩ = some (.slice A' n' c') := cell_of_row w4 _ 3 _ _ _ hblk
  have kf : ∀ j, w4.frozen? ⟨w2.heap.size, j, none⟩ = false := fun j => by simp [World.frozen?, hblk]
  obtain ⟨w5, hw5⟩ : ∃ w5, w5 = w4.setCell ⟨w2.heap.size, 3, none⟩ (.slice A' m c') := ⟨_, rfl⟩
  have ho5 : Only (fun b => b = w2.heap.size) w4 w5 := by rw [hw5]; exact (Only.refl (fun b => b = w2.heap.size) w4).setCell (p := ⟨w2.heap.size, 3, none⟩) (.inl rfl) _
  have hblk5 : w5.heap[w2.heap.size]? = some (.cells (boxCells nm ep nx (.slice A' m c')).toArray 49 (0, 0)) := by rw [hw5]; exact blk_set hblk 3 _
  have hro5 := hro.only ho5 (fun q hq e => by have := (hal2 q hq).2; omega)
  have hcg5 := ho5.heap hgs.cg (by omega)
  have hrg5 := hgs.row.only ho5 (fun q hq e => by have := (hgs.row.lt q hq).1; omega)
  have hne3 : ¬ (w2.heap.size + 1 ≤ w.heap.size + 1 + 1 + 1 ∨ blk A' = some (w.heap.size + 1 + 1 + 1)) := fun e => by
    rcases e with e | e
    · omega
    · have := (hal2 _ e).1; omega
  have hq35 := ho5.heap (ho.heap HQ3.out hne3) (by omega)
  have hsw3 := HBW3.out.size
  have hsw4 := ho.size
  have hss := HSS.out
  have hbw5 : Below w.heap.size w w5 := HBS.out.trans ((HBW3.out.mono HBS.out.size).trans ((ho.below (by omega) (fun b hb e => by
    rcases e with e | e
    · omega
    · have := (hal2 _ e).1; omega)).trans (ho5.below (by omega) (fun b hb e => by omega))))
  have HBLK5 := Lib.hid hblk5
  have HRO5 := Lib.hid hro5
  have HCG5 := Lib.hid hcg5
  have HRG5 := Lib.hid hrg5
  have HGL := Lib.hid hgs.gl
  have HQ35 := Lib.hid hq35
  have HBW5 := Lib.hid hbw5
  have HALL := Lib.hid hall
  have HW5 := Lib.hid hw5
  clear hw5 ho5 hblk5 hro5 hcg5 hrg5 hne3 hq35 hsw3 hsw4 hss hbw5 hblk hne9 hro hall hgs ho hal2
  go_upto_region 6 with fail
  rw [← HW5.out]
  clear k3 kf HW5
  have k0 : w5.cell? ⟨w2.heap.size, 0, none⟩ = some (.string nm) := cell_of_row w5 _ 0 _ _ _ HBLK5.out
  have k1 : w5.cell? ⟨w2.heap.size, 1, none⟩ = some (.int .u32 (ep : Int)) := cell_of_row w5 _ 1 _ _ _ HBLK5.out
  have k2 : w5.cell? ⟨w2.heap.size, 2, none⟩ = some (.int .u32 (nx : Int)) := cell_of_row w5 _ 2 _ _ _ HBLK5.out
  have k3 : w5.cell? ⟨w2.heap.size, 3, none⟩ = some (.slice A' m c') := cell_of_row w5 _ 3 _ _ _ HBLK5.out
  have l0 : w5.cell? ⟨w2.heap.size + 1, 0, none⟩ = some (.slice G k kc) := cell_of_row w5 _ 0 _ _ _ HCG5.out
  have r0 := cell_of_row w5 _ 0 _ _ _ HQ35.out
  have r1 := cell_of_row w5 _ 1 _ _ _ HQ35.out
  have r2 := cell_of_row w5 _ 2 _ _ _ HQ35.out
  have r3 := cell_of_row w5 _ 3 _ _ _ HQ35.out
  have rf : ∀ j, w5.frozen? ⟨w.heap.size + 1 + 1 + 1, j, none⟩ = false := fun j => by simp [World.frozen?, HQ35.out]
  go_region
  (try go_wp2_with fail)
  obtain ⟨hh, ho7⟩ := res4 HQ35.out (.string nm) (.int .u32 (ep : Int)) (.int .u32 (nx : Int)) (.slice A' m c')
  generalize hw7 : (((w5.setCell ⟨w.heap.size + 1 + 1 + 1, 0, none⟩ (.string nm)).setCell ⟨w.heap.size + 1 + 1 + 1, 1, none⟩ (.int .u32 (ep : Int))).setCell ⟨w.heap.size + 1 + 1 + 1, 2, none⟩ (.int .u32 (nx : Int))).setCell ⟨w.heap.size + 1 + 1 + 1, 3, none⟩ (.slice A' m c') = w7 at hh ho7 ⊢
  have hr1 := HRO5.out.lt
  have hr2 := HRG5.out.lt
  have hrow : RowO w7.drew w.heap.size 37 4 A' m c' vs' := (HRO5.out.only ho7.drew (fun q hq e => by have := (hr1 q hq).1; omega)).more (fun q hq => by have := (hr1 q hq).1; omega)
  have hrow2 : RowO w7.drew w.heap.size 35 1 G k kc (gs.map uV) := (HRG5.out.only ho7.drew (fun q hq e => by have := (hr2 q hq).1; omega)).more (fun q hq => by have := (hr2 q hq).1; omega)
  have hbw7 : Below w.heap.size w w7.drew := (HBW5.out.trans (ho7.below HBW5.out.size (fun b hb e => by omega))).drew
  have HH : Hid (w7.drew.heap[w.heap.size + 1 + 1 + 1]? = _) := hh
  have HRW := Lib.hid hrow
  have HRW2 := Lib.hid hrow2
  have HBW7 := Lib.hid hbw7
  clear hw7 ho7 hh hr1 hr2 hrow hrow2 hbw7
  try simp only [Exit.inBlock, Exit.then]
  refine bodyPost_ret (results_cell_tmp2 rfl _ _ (w.heap.size + 1 + 1 + 1) 49 _ (0, 0) rfl HH.out row49 size49) rfl ?_
  exact ⟨A', m, c', vs', ms', G, k, kc, gs, rfl, hmn, HRW.out, HALL.out, hkn, HRW2.out, HGL.out, HBW7.out⟩
end Go.Proofs.YtlhaempecidohaaGreatDoor
namespace Go.Proofs.YtlhaempecidohaaGreatDoor
open Go.RowKit
theorem uidsOf_append : ∀ (l : List Msg) (n : Nat) (m : Msg), uidsOf n (l ++ [m]) = uidsOf n l ++ [n + l.length]
  | [], n, m => rfl
  | x :: l, n, m => by
    show n :: uidsOf (n + 1) (l ++ [m]) = n :: uidsOf (n + 1) l ++ [n + (l.length + 1)]
    rw [uidsOf_append l (n + 1) m, List.cons_append, show n + 1 + l.length = n + (l.length + 1) by omega]
theorem addAll_append : ∀ (l : List Msg) (b : BoxS) (m : Msg), addAll b (l ++ [m]) = addS (addAll b l) m
  | [], b, m => rfl
  | x :: l, b, m => addAll_append l (addS b x) m
theorem addAllE_append : ∀ (l : List Msg) (b : BoxS) (m : Msg), addAllE b l = 0 → addE (addAll b l) m = 0 → addAllE b (l ++ [m]) = 0
  | [], b, m, _, h => by
    show (if addE b m = 0 then addAllE (addS b m) [] else addE b m) = 0
    have h : addE b m = 0 := h
    rw [if_pos h]; rfl
  | x :: l, b, m, h1, h2 => by
    unfold addAllE at h1
    split at h1
    · rename_i h0
      show (if addE b x = 0 then addAllE (addS b x) (l ++ [m]) else addE b x) = 0
      rw [if_pos h0]
      exact addAllE_append l (addS b x) m h1 h2
    · rename_i h0; exact absurd h1 h0
theorem addAll_next : ∀ (l : List Msg) (b : BoxS), (addAll b l).next = b.next + l.length
  | [], b => rfl
  | x :: l, b => by
    rw [show addAll b (x :: l) = addAll (addS b x) l from rfl, addAll_next l (addS b x)]
    show b.next + 1 + l.length = b.next + (l.length + 1)
    omega
theorem addE_next {b : BoxS} {m : Msg} (h : addE b m = 0) : b.next ≠ 4294967295 := by
  unfold addE at h
  split at h
  · cases h
  · split at h
    · cases h
    · split at h
      · cases h
      · split at h
        · cases h
        · assumption
/-- what Copy hands back -/
def octS (l : List Msg) : Nat := (l.map fun m => m.oct.length).sum
theorem octS_snoc (l : List Msg) (x : Msg) : octS (l ++ [x]) = octS l + x.oct.length := by simp [octS]
def CopE (w : World) (b : BoxS) (q : Nat) (e : Ending) (w' : World) : Prop :=
  (∃ (v' : Value) (z : Int), z ≠ 0 ∧ e = .returned (.tuple #[.agg #[.string ⟨#[]⟩, .int .u32 0, .int .u32 0, .slice none 0 0], v', .int .i64 z]) ∧ Below w.heap.size w w') ∨
  ∃ (ps : List Msg) (A : Option Addr) (n c : Nat) (vs : List (List Value)) (G : Option Addr) (k kc : Nat), addAllE b ps = 0 ∧ (addAll b ps).next < 4294967296 ∧ octS ps ≤ q ∧
    e = .returned (.tuple #[.agg (boxCells b.name b.epoch (addAll b ps).next (.slice A n c)).toArray, .slice G k kc, .int .i64 0]) ∧ RowO w' w.heap.size 37 4 A n c vs ∧ All2 (MsgA w' A) vs (addAll b ps).msgs ∧
    RowO w' w.heap.size 35 1 G k kc ((uidsOf b.next ps).map uV) ∧ Below w.heap.size w w'
/-- in the midst of Copy -/
structure CpM (w : World) (base g9 : Nat) (b : BoxS) (ps : List Msg) (A : Option Addr) (n c : Nat) (vs : List (List Value)) (G : Option Addr) (k kc : Nat) : Prop where
  box : BoxN w base g9 A n c vs b.name b.epoch (addAll b ps).next (addAll b ps).msgs
  uids : RowO w base 35 1 G k kc ((uidsOf b.next ps).map uV)
  ok : addAllE b ps = 0
  next : (addAll b ps).next < 4294967296
section
variable {w w' : World} {base g9 : Nat} {b : BoxS} {ps : List Msg} {A G : Option Addr} {n c k kc : Nat} {vs : List (List Value)}
theorem CpM.below (h : CpM w base g9 b ps A n c vs G k kc) (hb : Below w.heap.size w w') : CpM w' base g9 b ps A n c vs G k kc := ⟨h.box.below hb, h.uids.below hb, h.ok, h.next⟩
theorem CpM.len (h : CpM w base g9 b ps A n c vs G k kc) : (addAll b ps).msgs.length = n := by rw [← h.box.all.length]; exact h.box.row.len
end
theorem cells_inj {x y : Msg} {B B' : Option Addr} {m d m' d' : Nat} (h : msgCells x (.slice B m d) = msgCells y (.slice B' m' d')) : B = B' := by
  unfold msgCells at h
  injection h with _ h
  injection h with _ h
  injection h with _ h
  injection h with h _
  injection h
theorem cp_more {wb w4 w5 w6 : World} {base g9 n1 c1 k kc c7 c6 : Nat} {b : BoxS} {ps : List Msg} {A1 A7 G G6 : Option Addr} {vs1 vs7 : List (List Value)} {x : Msg} (h : CpM wb base g9 b ps A1 n1 c1 vs1 G k kc) (hz : addE (addAll b ps) x = 0)
    (hro7 : RowO w4 wb.heap.size 37 4 A7 (n1 + 1) c7 vs7) (hal7 : All2 (MsgA w4 A7) vs7 (addS (addAll b ps) x).msgs) (hfr : ∀ v ∈ vs7, FrV wb.heap.size v) (hb4 : Below wb.heap.size wb w4) (hb5 : Below w4.heap.size w4 w5)
    (hro6 : RowO w6 base 35 1 G6 (k + 1) c6 ((uidsOf b.next ps).map uV ++ [uV (addAll b ps).next])) (ho6 : Only (fun q => blk G = some q) w5 w6) (hbase : base ≤ wb.heap.size) :
    CpM ((((w6.setCell ⟨g9, 0, none⟩ (.string b.name)).setCell ⟨g9, 1, none⟩ (.int .u32 (b.epoch : Int))).setCell ⟨g9, 2, none⟩ (.int .u32 (((addAll b ps).next + 1 : Nat) : Int))).setCell ⟨g9, 3, none⟩ (.slice A7 (n1 + 1) c7)) base g9 b (ps ++ [x]) A7 (n1 + 1) c7 vs7 G6 (k + 1) c6 ∧
      Only (fun q => q = g9 ∨ blk G = some q) w5 ((((w6.setCell ⟨g9, 0, none⟩ (.string b.name)).setCell ⟨g9, 1, none⟩ (.int .u32 (b.epoch : Int))).setCell ⟨g9, 2, none⟩ (.int .u32 (((addAll b ps).next + 1 : Nat) : Int))).setCell ⟨g9, 3, none⟩ (.slice A7 (n1 + 1) c7)) := by
  have hb45 : Below wb.heap.size wb w5 := hb4.trans (hb5.mono hb4.size)
  have hg9 := h.box.lt
  have hGl := h.uids.lt
  have hG9 : blk G ≠ some g9 := h.uids.neb h.box.blk (by decide)
  have hblk6 := ho6.heap ((hb45.block g9 hg9).trans h.box.blk) hG9
  have hnb := boxNoB hblk6
  obtain ⟨hh, ho7⟩ := res4 hblk6 (.string b.name) (.int .u32 (b.epoch : Int)) (.int .u32 (((addAll b ps).next + 1 : Nat) : Int)) (.slice A7 (n1 + 1) c7)
  generalize (((w6.setCell ⟨g9, 0, none⟩ (.string b.name)).setCell ⟨g9, 1, none⟩ (.int .u32 (b.epoch : Int))).setCell ⟨g9, 2, none⟩ (.int .u32 (((addAll b ps).next + 1 : Nat) : Int))).setCell ⟨g9, 3, none⟩ (.slice A7 (n1 + 1) c7) = w7 at hh ho7 ⊢
  have hA7 := hro7.lt
  have hA9 : blk A7 ≠ some g9 := fun e => by have := (hA7 _ e).1; omega
  have hr7 : RowO w7 base 37 4 A7 (n1 + 1) c7 vs7 := (((hro7.below hb5).only ho6 (fun q hq e => by have := (hA7 q hq).1; have := (hGl q e).2; omega)).only ho7 (fun q hq e => hA9 (by rw [hq, e]))).more (fun q hq => by have := (hA7 q hq).1; omega)
  have hal : All2 (MsgA w7 A7) vs7 (addS (addAll b ps) x).msgs := by
    have key : ∀ {us : List (List Value)} {ys : List Msg}, All2 (MsgA w4 A7) us ys → (∀ v ∈ us, FrV wb.heap.size v) → All2 (MsgA w7 A7) us ys := by
      intro us
      induction us with
      | nil => intro ys h1 _; cases ys with
        | nil => trivial
        | cons _ _ => exact h1.elim
      | cons v us ih => intro ys h1 h2; cases ys with
        | nil => exact h1.elim
        | cons y ys =>
          obtain ⟨⟨B, m, d, e1, e2, e3, e4⟩, h3⟩ := h1
          obtain ⟨y', B', m', d', e5, e6⟩ := h2 v (by simp)
          have eB : B = B' := cells_inj (e1.symm.trans e5)
          subst eB
          refine ⟨⟨B, m, d, e1, ((e2.below hb5).only ho6 (fun q hq e => by have := e6 q hq; have := (hGl q e).2; omega)).keep ho7 (fun q hq => by subst hq; exact hnb), e3, e4⟩, ih h3 (fun u hu => h2 u (by simp [hu]))⟩
    exact key hal7 hfr
  refine ⟨⟨⟨?_, hr7, ?_, hA9⟩, ?_, addAllE_append ps b x h.ok hz, ?_⟩, ?_⟩
  · rw [addAll_append]; exact hh
  · rw [addAll_append]; exact hal
  · have hu : uidsOf b.next (ps ++ [x]) = uidsOf b.next ps ++ [(addAll b ps).next] := by rw [uidsOf_append, addAll_next]
    rw [hu, List.map_append]
    have h69 : blk G6 ≠ some g9 := hro6.neb hblk6 (by decide)
    exact hro6.only ho7 (fun q hq e => h69 (by rw [hq, e]))
  · rw [addAll_append]
    have h1 := addE_next hz
    have h2 := h.next
    show (addAll b ps).next + 1 < _
    omega
  · exact (ho6.mono (S' := fun q => q = g9 ∨ blk G = some q) (fun _ h => .inr h)).trans ho7 (fun _ _ h => .inl h)
set_option maxRecDepth 8000 in
set_option maxHeartbeats 4000000 in
theorem copy_any (nf nt : ByteArray) (ef xf et xt : Nat) (F A U : Option Addr) (fn fc n c un uc : Nat) (vsF vs : List (List Value)) (msF ms : List Msg) (us : List Nat) (w : World)
    (hbf : rightBox ⟨nf, ef, xf, msF⟩ = true) (hb : rightBox ⟨nt, et, xt, ms⟩ = true) (hnx : xt < 4294967296)
    (hrf : RowR w F fn 4 vsF) (hxf : All2 (MsgR w) vsF msF) (hr : RowR w A n 4 vs) (hx : All2 (MsgR w) vs ms) (hu : UR w U un us) (hun : un ≤ 1000000000) (hE : Env w) :
    Calls Tryz.prog 73 #[.agg (boxCells nf ef xf (.slice F fn fc)).toArray, .agg (boxCells nt et xt (.slice A n c)).toArray, .slice U un uc] w (CopE w ⟨nt, et, xt, ms⟩ (octS msF)) := by
  have hnl : ms.length = n := by rw [← hx.length]; exact hr.len
  have hfl : msF.length = fn := by rw [← hxf.length]; exact hrf.len
  have hbp := rightBox_parts hb
  have hfp := rightBox_parts hbf
  have h500 := hbp.2.2.2.1
  have f500 := hfp.2.2.2.1
  dsimp only at h500 f500
  rw [hnl] at h500
  rw [hfl] at f500
  have hoct : ∀ y ∈ ms, y.oct.length ≤ 10000000 := fun y hy => by have := (boxFrom_lt hbp.2.2.2.2 y hy).2.2.2; omega
  have hFF : ∀ y ∈ msF, (0 ≤ y.date ∧ y.date ≤ 253402300799) ∧ y.oct.length ≤ 20000 := fun y hy => by
    have h := (boxFrom_lt hfp.2.2.2.2 y hy).2.2
    refine ⟨?_, h.2⟩
    have h1 := h.1
    unfold fitsMsg dated at h1
    simp only [Bool.and_eq_true, decide_eq_true_eq] at h1
    exact h1.1
  obtain ⟨b, hbb⟩ : ∃ b : BoxS, b = ⟨nt, et, xt, ms⟩ := ⟨_, rfl⟩
  have hb1n : b.name = nt := by rw [hbb]
  have hb1e : b.epoch = et := by rw [hbb]
  have hb1x : b.next = xt := by rw [hbb]
  have hb1m : b.msgs = ms := by rw [hbb]
  have hbr : rightBox b = true := by rw [hbb]; exact hb
  unfold boxCells
  obtain ⟨wx1, hwx1⟩ : ∃ x, x = w.alloc (.cells #[.string nf, .int .u32 (ef : Int), .int .u32 (xf : Int), .slice F fn fc] 49) := ⟨_, rfl⟩
  obtain ⟨wx2, hwx2⟩ : ∃ x, x = wx1.alloc (.cells #[.string nt, .int .u32 (et : Int), .int .u32 (xt : Int), .slice A n c] 49) := ⟨_, rfl⟩
  obtain ⟨ws, hws⟩ : ∃ x, x = wx2.alloc (.cells #[.string ⟨#[]⟩, .int .u32 0, .int .u32 0, .slice none 0 0] 49) := ⟨_, rfl⟩
  have z1 : wx1.heap.size = w.heap.size + 1 := by rw [hwx1]; simp
  have z2 : wx2.heap.size = w.heap.size + 1 + 1 := by rw [hwx2, World.size_alloc, z1]
  have z3 : ws.heap.size = w.heap.size + 1 + 1 + 1 := by rw [hws, World.size_alloc, z2]
  have v1 : Below w.heap.size w wx1 := by rw [hwx1]; exact (Below.refl _ _).alloc (Nat.le_refl _) _
  have v2 : Below wx1.heap.size wx1 wx2 := by rw [hwx2]; exact (Below.refl _ _).alloc (Nat.le_refl _) _
  have v3 : Below wx2.heap.size wx2 ws := by rw [hws]; exact (Below.refl _ _).alloc (Nat.le_refl _) _
  have v23 : Below wx1.heap.size wx1 ws := v2.trans (v3.mono v2.size)
  have hbs : Below w.heap.size w ws := v1.trans (v23.mono v1.size)
  have hg0 : ws.heap[w.heap.size]? = some (.cells #[.string nf, .int .u32 (ef : Int), .int .u32 (xf : Int), .slice F fn fc] 49 (0, 0)) := by
    rw [v23.block _ (by omega), hwx1]; exact heap_alloc_new w _
  have hg1 : ws.heap[w.heap.size + 1]? = some (.cells #[.string nt, .int .u32 (et : Int), .int .u32 (xt : Int), .slice A n c] 49 (0, 0)) := by
    rw [v3.block _ (by omega), hwx2, ← z1]; exact heap_alloc_new wx1 _
  have hg2 : ws.heap[w.heap.size + 1 + 1]? = some (.cells #[.string ⟨#[]⟩, .int .u32 0, .int .u32 0, .slice none 0 0] 49 (0, 0)) := by
    rw [hws, ← z2]; exact heap_alloc_new wx2 _
  have hwsx : ws = ((w.alloc (.cells #[.string nf, .int .u32 (ef : Int), .int .u32 (xf : Int), .slice F fn fc] 49)).alloc (.cells #[.string nt, .int .u32 (et : Int), .int .u32 (xt : Int), .slice A n c] 49)).alloc (.cells #[.string ⟨#[]⟩, .int .u32 0, .int .u32 0, .slice none 0 0] 49) := by rw [hws, hwx2, hwx1]
  have hxs : All2 (MsgR ws) vs ms := hx.mono (MsgR.below hbs)
  have hRF := mright_yes nf ef xf F fn fc vsF msF ws hbf (hrf.below hbs) (hxf.mono (MsgR.below hbs)) (hE.below hbs)
  have hRT := fun w2 (h2 : Below ws.heap.size ws w2) => mright_yes nt et xt A n c vs ms w2 hb ((hr.below hbs).below h2) (hxs.mono (MsgR.below h2)) ((hE.below hbs).below h2)
  have hC := fun w2 (h2 : Below ws.heap.size ws w2) => clone_any nt et xt A n c vs ms w2 ((hr.below hbs).below h2) (hxs.mono (MsgR.below h2)) (by omega) hoct
  unfold boxCells at hRF hRT hC
  have HRF := Lib.hid hRF
  have HRT := Lib.hid hRT
  have HC := Lib.hid hC
  have HU := Lib.hid (hu.below hbs)
  have HROWF := Lib.hid (hrf.below hbs)
  have HALLF := Lib.hid (hxf.mono (MsgR.below hbs))
  have HFF := Lib.hid hFF
  have HE := Lib.hid (hE.below hbs)
  have HBR := Lib.hid hbr
  have HG0 := Lib.hid hg0
  have HG1 := Lib.hid hg1
  have HG2 := Lib.hid hg2
  have HBS := Lib.hid hbs
  have HWS := Lib.hid hwsx
  have HSS := Lib.hid z3
  have HNL : Hid (ms.length = n) := hnl
  have HBB := Lib.hid hbb
  have HB1 := Lib.hid hb1n
  have HB2 := Lib.hid hb1e
  have HB3 := Lib.hid hb1x
  have HB4 := Lib.hid hb1m
  have b0 := cell_of_row ws _ 0 _ _ _ hg0
  have b1 := cell_of_row ws _ 1 _ _ _ hg0
  have b2 := cell_of_row ws _ 2 _ _ _ hg0
  have b3 := cell_of_row ws _ 3 _ _ _ hg0
  clear hnl hbp hfp hfl hoct hws hbs hg0 hg1 hg2 hxs hRF hRT hC hb hbf hr hx hu hrf hxf hE hFF hwsx v1 v2 v3 v23 z1 z2 z3 hwx1 hwx2 hbr hbb hb1n hb1e hb1x hb1m
  clear wx1 wx2
  go_enter Tryz.func73, Tryz.ntmps73
  go_upto_region 1 with fail
  rw [← HWS.out]
  go_wp2_with fail
  refine HRF.out.mono ?_
  rintro e w1 ⟨rfl, hb1⟩
  have HR1 := Lib.hid (HRT.out w1 hb1)
  have q1 := (hb1.block _ (Array.getElem?_eq_some_iff.1 HG1.out).1).trans HG1.out
  have Q1 := Lib.hid q1
  have d0 := cell_of_row w1 _ 0 _ _ _ q1
  have d1 := cell_of_row w1 _ 1 _ _ _ q1
  have d2 := cell_of_row w1 _ 2 _ _ _ q1
  have d3 := cell_of_row w1 _ 3 _ _ _ q1
  have HB1' := Lib.hid hb1
  clear b0 b1 b2 b3 hb1 q1 HRF HRT
  go_wp2_with fail
  refine HR1.out.mono ?_
  rintro e w1' ⟨rfl, hb1⟩
  have hb12 := HB1'.out.trans (hb1.mono HB1'.out.size)
  have HC1 := Lib.hid (HC.out w1' hb12)
  have d0 := cell_later hb1 d0
  have d1 := cell_later hb1 d1
  have d2 := cell_later hb1 d2
  have d3 := cell_later hb1 d3
  have HBA := Lib.hid hb12
  clear hb12 hb1 HC HR1 Q1
  go_wp2_with fail
  refine HC1.out.mono ?_
  rintro e w2 ⟨A', n', c', us', rfl, hro, hal, hb2, -⟩
  have hn' : n' = n := by rw [← hro.len, hal.length, HNL.out]
  subst hn'
  obtain ⟨w3, hw3⟩ : ∃ w3, w3 = w2.alloc (.cells #[.string nt, .int .u32 (et : Int), .int .u32 (xt : Int), .slice A' n' c'] 49) := ⟨_, rfl⟩
  have hb3 : Below w2.heap.size w2 w3 := by rw [hw3]; exact (Below.refl _ _).alloc (Nat.le_refl _) _
  have hs1 : w.heap.size + 1 + 1 + 1 ≤ w1'.heap.size := by rw [← HSS.out]; exact HBA.out.size
  have hs2 := hb2.size
  have hM3 : CpM w3 ws.heap.size w2.heap.size b [] A' n' c' us' none 0 0 := by
    refine ⟨⟨?_, ?_, ?_, fun e => by have := (hro.lt _ e).2; omega⟩, RowO.nil _ _ _ _, rfl, by show b.next < _; rw [HB3.out]; exact hnx⟩
    · show w3.heap[w2.heap.size]? = some (.cells (boxCells b.name b.epoch b.next (.slice A' n' c')).toArray 49 (0, 0))
      rw [HB1.out, HB2.out, HB3.out, hw3]
      exact heap_alloc_new _ _
    · exact (hro.below hb3).more (fun q hq => by have := (hro.lt q hq).1; have := HBA.out.size; omega)
    · show All2 (MsgA w3 A') us' b.msgs
      rw [HB4.out]
      exact hal.mono (MsgA.below hb3)
  have hbw3 : Below ws.heap.size ws w3 := HBA.out.trans ((hb2.trans (hb3.mono hb2.size)).mono HBA.out.size)
  have hres := (hbw3.block _ (Array.getElem?_eq_some_iff.1 HG2.out).1).trans HG2.out
  have hq0 := (hbw3.block _ (Array.getElem?_eq_some_iff.1 HG0.out).1).trans HG0.out
  have HM3 := Lib.hid hM3
  have HBW3 := Lib.hid hbw3
  have HRES3 := Lib.hid hres
  have HW3 := Lib.hid hw3
  have e3 : w3.cell? ⟨w.heap.size, 3, none⟩ = some (.slice F fn fc) := cell_of_row w3 _ 3 _ _ _ hq0
  clear hw3 hb3 hM3 hbw3 hres hro hal hb2 d0 d1 d2 d3 hq0
  unfold boxCells
  go_upto_region 4 with fail
  rw [← HW3.out]
  go_wp2_with fail
  clear e3
  go_loopw [10, 30] (fun v10 v30 wr => ∃ (i : Nat) (ps : List Msg) (A' : Option Addr) (n' c' : Nat) (vs' : List (List Value)) (G : Option Addr) (k kc : Nat), i ≤ fn ∧ v10 = .slice G k kc ∧ v30 = .int .i64 (i : Int) ∧ k ≤ i ∧ octS ps ≤ octS (msF.take i) ∧ CpM wr ws.heap.size w2.heap.size b ps A' n' c' vs' G k kc ∧ wr.heap[w.heap.size + 1 + 1]? = some (.cells #[.string ⟨#[]⟩, .int .u32 0, .int .u32 0, .slice none 0 0] 49 (0, 0)) ∧ Below ws.heap.size ws wr) (fun _ v30 _ => fn - (intOf v30).toNat)
  case atStart => exact ⟨0, [], A', n', c', us', none, 0, 0, Nat.zero_le _, rfl, rfl, Nat.le_refl _, Nat.zero_le _, HM3.out, HRES3.out, HBW3.out⟩
  case round =>
    obtain ⟨i, ps, A1, n1, c1, vs1, G, k, kc, hi, rfl, rfl, hki, hos, hm, hres, hb⟩ := hrel
    have HOS := Lib.hid hos
    have HM := Lib.hid hm
    have HRES := Lib.hid hres
    have HB := Lib.hid hb
    clear hos hm hres hb
    by_cases hlt : i < fn
    · obtain ⟨g', v, rfl, hv, hvl, hc⟩ := (HROWF.out.below HB.out).at_ hlt
      obtain ⟨x, hxi, B, m, d, rfl, hrb, hmd⟩ := HALLF.out.left hv
      have hto : octS (msF.take (i + 1)) = octS (msF.take i) + x.oct.length := by
        obtain ⟨h1, h2⟩ := List.getElem?_eq_some_iff.1 hxi
        rw [List.take_succ_eq_append_getElem h1, h2, octS_snoc]
      have HTO := Lib.hid hto
      clear hto
      obtain ⟨⟨hd0, hd1⟩, hx2⟩ := HFF.out x (List.mem_of_getElem? hxi)
      rw [hrb.1] at hx2
      obtain ⟨d37, hu, hd⟩ := rowT row37
      have HU37 := Lib.hid hu
      have HD37 := Lib.hid hd
      unfold msgCells at hc
      have HCC := Lib.hid hc
      obtain ⟨wa, hwa⟩ : ∃ wa, wa = wr.alloc (.cells #[.int .u32 (x.uid : Int), .int .i64 x.date, .int .i64 x.flags, .slice B m d] 37) := ⟨_, rfl⟩
      have hba : Below wr.heap.size wr wa := by rw [hwa]; exact (Below.refl _ _).alloc (Nat.le_refl _) _
      have a0 : wa.cell? ⟨wr.heap.size, 0, none⟩ = some (.int .u32 (x.uid : Int)) := by rw [hwa]; exact cell_new wr _ 37 rfl
      have a1 : wa.cell? ⟨wr.heap.size, 1, none⟩ = some (.int .i64 x.date) := by rw [hwa]; exact cell_new wr _ 37 rfl
      have a2 : wa.cell? ⟨wr.heap.size, 2, none⟩ = some (.int .i64 x.flags) := by rw [hwa]; exact cell_new wr _ 37 rfl
      have a3 : wa.cell? ⟨wr.heap.size, 3, none⟩ = some (.slice B m d) := by rw [hwa]; exact cell_new wr _ 37 rfl
      have hMA := HM.out.below hba
      have hresA := (hba.block _ (Array.getElem?_eq_some_iff.1 HRES.out).1).trans HRES.out
      have hbwA := HB.out.trans (hba.mono HB.out.size)
      have HUC := Lib.hid (ucontains_any U un uc x.uid us wa (HU.out.below hbwA) hun)
      have HMA := Lib.hid hMA
      have HRESA := Lib.hid hresA
      have HBWA := Lib.hid hbwA
      have HWA := Lib.hid hwa
      have HRBA := Lib.hid (hrb.below hbwA)
      have HD0 := Lib.hid hd0
      have HD1 := Lib.hid hd1
      clear hwa hba hv hvl hc hxi hu hd hMA hresA hbwA hrb hd0 hd1
      go_upto_region 8 with (refine wpList_load_mid rfl 37 (.tmp 32) rfl g' (i * 4) rfl _ d37 HCC.out HU37.out HD37.out size37 ?_)
      rw [← HWA.out]
      go_wp2_with fail
      refine HUC.out.mono ?_
      rintro e wb ⟨⟨bb, rfl⟩, rfl⟩
      cases bb
      · go_wp2_with fail
        exact ⟨⟨i + 1, ps, A1, n1, c1, vs1, G, k, kc, hlt, by first | rfl | trivial, by first | rfl | (congr 1), by omega, by have := HOS.out; have := HTO.out; omega, HMA.out, HRESA.out, HBWA.out⟩, by simp [intOf]; omega⟩
      · have hblk := HMA.out.box.blk
        rw [HB1.out, HB2.out] at hblk
        have k0 : wb.cell? ⟨w2.heap.size, 0, none⟩ = some (.string nt) := cell_of_row wb _ 0 _ _ _ hblk
        have k1 : wb.cell? ⟨w2.heap.size, 1, none⟩ = some (.int .u32 (et : Int)) := cell_of_row wb _ 1 _ _ _ hblk
        have k2 : wb.cell? ⟨w2.heap.size, 2, none⟩ = some (.int .u32 ((addAll b ps).next : Int)) := cell_of_row wb _ 2 _ _ _ hblk
        have k3 : wb.cell? ⟨w2.heap.size, 3, none⟩ = some (.slice A1 n1 c1) := cell_of_row wb _ 3 _ _ _ hblk
        have hnm := addAll_name ps b
        rw [HB1.out, HB2.out] at hnm
        have heq : addAll b ps = ⟨nt, et, (addAll b ps).next, (addAll b ps).msgs⟩ := by
          obtain ⟨h1, h2⟩ := hnm
          rw [← h1, ← h2]
        have hrgt : rightBox ⟨nt, et, (addAll b ps).next, (addAll b ps).msgs⟩ = true := by rw [← heq]; exact addAll_right ps HBR.out HMA.out.ok
        have hAP := mappend_any nt et (addAll b ps).next A1 B n1 c1 m d vs1 (addAll b ps).msgs x wb hrgt HMA.out.next HMA.out.box.row.read (HMA.out.box.all.mono MsgA.r) HRBA.out hmd (by omega) (by have := HD0.out; omega) (by have := HD1.out; omega) (HE.out.below HBWA.out)
        rw [← heq] at hAP
        unfold boxCells msgCells at hAP
        have HAP := Lib.hid hAP
        have HEQ := Lib.hid heq
        clear hblk hnm heq hrgt hAP
        go_wp2_with fail
        refine HAP.out.mono ?_
        rintro e w4 hE4
        unfold AppE at hE4
        by_cases hz : addE (addAll b ps) x = 0
        · rw [if_pos hz] at hE4
          obtain ⟨A7, n7, c7, vs7, rfl, hro7, hal7, hb4, hfr7⟩ := hE4
          have hn7 : n7 = n1 + 1 := by
            have h1 := hal7.length
            rw [hro7.len] at h1
            have h2 : (addS (addAll b ps) x).msgs.length = (addAll b ps).msgs.length + 1 := by unfold addS; simp
            rw [h1, h2, HMA.out.len]
          subst hn7
          rw [HEQ.out]
          dsimp only
          have hNX : ((addAll b ps).next + 1 : Nat) = ((addAll b ps).next + 1 : Nat) := rfl
          obtain ⟨NX, hNX⟩ : ∃ NX, (addAll b ps).next + 1 = NX := ⟨_, rfl⟩
          rw [hNX]
          obtain ⟨w5, hw5⟩ : ∃ w5, w5 = w4.alloc (.cells #[.string nt, .int .u32 (et : Int), .int .u32 (NX : Int), .slice A7 (n1 + 1) c7] 49) := ⟨_, rfl⟩
          have hb5 : Below w4.heap.size w4 w5 := by rw [hw5]; exact (Below.refl _ _).alloc (Nat.le_refl _) _
          have h13 : w5.heap[w4.heap.size]? = some (.cells #[.string nt, .int .u32 (et : Int), .int .u32 (NX : Int), .slice A7 (n1 + 1) c7] 49 (0, 0)) := by rw [hw5]; exact heap_alloc_new _ _
          have hb45 : Below wb.heap.size wb w5 := hb4.trans (hb5.mono hb4.size)
          have hblk := HMA.out.box.blk
          rw [HB1.out, HB2.out] at hblk
          have h59 := (hb45.block _ HMA.out.box.lt).trans hblk
          have hs4 := hb4.size
          have hG9 : blk G ≠ some w2.heap.size := HMA.out.uids.neb HMA.out.box.blk (by decide)
          have hG13 : blk G ≠ some w4.heap.size := fun e => by have := (HMA.out.uids.lt _ e).2; omega
          have hl13 : w4.heap.size < w5.heap.size := (Array.getElem?_eq_some_iff.1 h13).1
          have hl9 : w2.heap.size < w5.heap.size := (Array.getElem?_eq_some_iff.1 h59).1
          have hbase : ws.heap.size ≤ w5.heap.size := by have := HBWA.out.size; omega
          have l0 : w5.cell? ⟨w4.heap.size, 0, none⟩ = some (.string nt) := cell_of_row w5 _ 0 _ _ _ h13
          have l1 : w5.cell? ⟨w4.heap.size, 1, none⟩ = some (.int .u32 (et : Int)) := cell_of_row w5 _ 1 _ _ _ h13
          have l2 : w5.cell? ⟨w4.heap.size, 2, none⟩ = some (.int .u32 (NX : Int)) := cell_of_row w5 _ 2 _ _ _ h13
          have l3 : w5.cell? ⟨w4.heap.size, 3, none⟩ = some (.slice A7 (n1 + 1) c7) := cell_of_row w5 _ 3 _ _ _ h13
          have HRO7 := Lib.hid hro7
          have HAL7 := Lib.hid hal7
          have HFR7 := Lib.hid hfr7
          have HB4' := Lib.hid hb4
          have HB5 := Lib.hid hb5
          have HB45 := Lib.hid hb45
          have H13 := Lib.hid h13
          have H59 := Lib.hid h59
          have HZ := Lib.hid hz
          have HNX := Lib.hid hNX
          have HW5 := Lib.hid hw5
          have HG9 := Lib.hid hG9
          have HG13 := Lib.hid hG13
          have HUI := Lib.hid (HMA.out.uids.below hb45)
          clear hro7 hal7 hfr7 hb4 hb5 hb45 h13 h59 hz hNX hw5 hG9 hG13 hblk k0 k1 k2 k3 a0 a1 a2 a3
          unfold boxCells
          go_upto_region 12 with fail
          rw [← HW5.out]
          go_region_law (refine step_append_row rfl (.tmp 51) (.tmp 53) 31 35 1 _ 4 und31 inf35 rfl (by decide) (by decide) rfl rfl rfl (HUI.out.below ((Below.refl _ _).alloc (Nat.le_refl _) _).drew) (range_new w5 (uV (addAll b ps).next) 35) rfl (by simp [uV, Value.oneCell']) (by omega) (by simp; omega) ?_; intro G6 c6 w6 hro6 ho6 hbk6; have hb6 := ((Below.refl w5.heap.size w5).alloc (Nat.le_refl _) (.cells (uV (addAll b ps).next).toArray 35)).drew; have h613 := ho6.heap ((hb6.block _ hl13).trans H13.out) HG13.out; have h69 := ho6.heap ((hb6.block _ hl9).trans H59.out) HG9.out; have l0 := cell_of_row w6 _ 0 _ _ _ h613; have l1 := cell_of_row w6 _ 1 _ _ _ h613; have l2 := cell_of_row w6 _ 2 _ _ _ h613; have l3 := cell_of_row w6 _ 3 _ _ _ h613; have k0 : w6.cell? ⟨w2.heap.size, 0, none⟩ = some (.string nt) := cell_of_row w6 _ 0 _ _ _ h69; have k1 : w6.cell? ⟨w2.heap.size, 1, none⟩ = some (.int .u32 (et : Int)) := cell_of_row w6 _ 1 _ _ _ h69; have k2 : w6.cell? ⟨w2.heap.size, 2, none⟩ = some (.int .u32 ((addAll b ps).next : Int)) := cell_of_row w6 _ 2 _ _ _ h69; have k3 : w6.cell? ⟨w2.heap.size, 3, none⟩ = some (.slice A1 n1 c1) := cell_of_row w6 _ 3 _ _ _ h69; have H69 := Lib.hid h69; have kf : ∀ j, w6.frozen? ⟨w2.heap.size, j, none⟩ = false := (fun j => by simp [World.frozen?, H69.out]); have HRO6 := Lib.hid hro6; have HO6 := Lib.hid ho6; have HB6 := Lib.hid hb6; clear hro6 ho6 hbk6 hb6 h613 h69)
          all_goals
            (try go_wp2_with fail)
            obtain ⟨p1, p2⟩ := cp_more HMA.out HZ.out HRO7.out HAL7.out HFR7.out HB4'.out (HB5.out.trans (HB6.out.mono HB5.out.size)) HRO6.out HO6.out HBWA.out.size
            rw [HB1.out, HB2.out, HNX.out] at p1 p2
            have hs5 := HB5.out.size
            have hs6 := HB6.out.size
            have hul := HMA.out.uids.lt
            have hlr : w.heap.size + 1 + 1 < wb.heap.size := (Array.getElem?_eq_some_iff.1 HRESA.out).1
            have hb56 := HB45.out.trans (HB6.out.mono HB45.out.size)
            have hnr : ¬ (w.heap.size + 1 + 1 = w2.heap.size ∨ blk G = some (w.heap.size + 1 + 1)) := fun e => by
              have hss := HSS.out
              rcases e with e | e
              · omega
              · have := (hul _ e).1; omega
            refine ⟨⟨i + 1, ps ++ [x], A7, n1 + 1, c7, vs7, G6, k + 1, c6, hlt, rfl, by first | rfl | (congr 1), by omega, by rw [octS_snoc]; have := HOS.out; have := HTO.out; omega, p1, p2.heap ((hb56.block _ hlr).trans HRESA.out) hnr, ?_⟩, by simp [intOf]; omega⟩
            have hsz := HBWA.out.size
            have hss := HSS.out
            exact HBWA.out.trans ((hb56.mono hsz).trans (p2.below (by omega) (fun q hq e => by
              rcases e with e | e
              · omega
              · have := (hul _ e).1; omega)))
        · rw [if_neg hz] at hE4
          obtain ⟨rfl, hb4⟩ := hE4
          have hz' : (addE (addAll b ps) x != 0) = true := by simpa using hz
          have hresB := (hb4.block _ (Array.getElem?_eq_some_iff.1 HRESA.out).1).trans HRESA.out
          have HZ := Lib.hid hz
          have hbw4 := HBS.out.trans ((HBWA.out.trans (hb4.mono HBWA.out.size)).mono HBS.out.size)
          obtain ⟨w5, hw5⟩ : ∃ w5, w5 = w4.alloc (.cells #[.string ⟨#[]⟩, .int .u32 0, .int .u32 0, .slice none 0 0] 49) := ⟨_, rfl⟩
          have hb5 : Below w4.heap.size w4 w5 := by rw [hw5]; exact (Below.refl _ _).alloc (Nat.le_refl _) _
          have hres5 := (hb5.block _ (Array.getElem?_eq_some_iff.1 hresB).1).trans hresB
          have hbw5 := hbw4.trans (hb5.mono hbw4.size)
          have HRES5 := Lib.hid hres5
          have HBW5 := Lib.hid hbw5
          have HW5 := Lib.hid hw5
          clear hb4 hz hresB hbw4 hw5 hb5 hres5 hbw5 k0 k1 k2 k3 a0 a1 a2 a3
          go_upto_region 10 with fail
          rw [← HW5.out]
          have r0 := cell_of_row w5 _ 0 _ _ _ HRES5.out
          have r1 := cell_of_row w5 _ 1 _ _ _ HRES5.out
          have r2 := cell_of_row w5 _ 2 _ _ _ HRES5.out
          have r3 := cell_of_row w5 _ 3 _ _ _ HRES5.out
          have rf : ∀ j, w5.frozen? ⟨w.heap.size + 1 + 1, j, none⟩ = false := fun j => by simp [World.frozen?, HRES5.out]
          go_wp2_with fail
          obtain ⟨hh, ho7⟩ := res4 HRES5.out (.string ⟨#[]⟩) (.int .u32 0) (.int .u32 0) (.slice none 0 0)
          have hbw7 := HBW5.out.trans (ho7.below HBW5.out.size (fun b hb e => by omega))
          try simp only [Exit.inBlock, Exit.then]
          refine bodyPost_ret (results_cell_tmp2 rfl _ _ (w.heap.size + 1 + 1) 49 _ (0, 0) rfl hh row49 size49) rfl ?_
          exact .inl ⟨_, _, HZ.out, rfl, hbw7⟩
    · obtain rfl : i = fn := by omega
      have hblk := HM.out.box.blk
      rw [HB1.out, HB2.out] at hblk
      have k0 : wr.cell? ⟨w2.heap.size, 0, none⟩ = some (.string nt) := cell_of_row wr _ 0 _ _ _ hblk
      have k1 : wr.cell? ⟨w2.heap.size, 1, none⟩ = some (.int .u32 (et : Int)) := cell_of_row wr _ 1 _ _ _ hblk
      have k2 : wr.cell? ⟨w2.heap.size, 2, none⟩ = some (.int .u32 ((addAll b ps).next : Int)) := cell_of_row wr _ 2 _ _ _ hblk
      have k3 : wr.cell? ⟨w2.heap.size, 3, none⟩ = some (.slice A1 n1 c1) := cell_of_row wr _ 3 _ _ _ hblk
      have r0 := cell_of_row wr _ 0 _ _ _ HRES.out
      have r1 := cell_of_row wr _ 1 _ _ _ HRES.out
      have r2 := cell_of_row wr _ 2 _ _ _ HRES.out
      have r3 := cell_of_row wr _ 3 _ _ _ HRES.out
      have rf : ∀ j, wr.frozen? ⟨w.heap.size + 1 + 1, j, none⟩ = false := fun j => by simp [World.frozen?, HRES.out]
      clear hblk
      go_wp2_with fail
      obtain ⟨hh, ho7⟩ := res4 HRES.out (.string nt) (.int .u32 (et : Int)) (.int .u32 ((addAll b ps).next : Int)) (.slice A1 n1 c1)
      generalize hw7 : (((wr.setCell ⟨w.heap.size + 1 + 1, 0, none⟩ (.string nt)).setCell ⟨w.heap.size + 1 + 1, 1, none⟩ (.int .u32 (et : Int))).setCell ⟨w.heap.size + 1 + 1, 2, none⟩ (.int .u32 ((addAll b ps).next : Int))).setCell ⟨w.heap.size + 1 + 1, 3, none⟩ (.slice A1 n1 c1) = w7 at hh ho7 ⊢
      have hnb : NoB wr (w.heap.size + 1 + 1) := NoB.cells HRES.out (fun j x e => by
        rw [List.getElem?_toArray] at e
        rcases j with _ | _ | _ | _ | j <;> simp at e)
      have hl1 := HM.out.box.row.lt
      have hl2 := HM.out.uids.lt
      have hss := HSS.out
      have hrow := (HM.out.box.row.only ho7 (fun q hq e => by have := (hl1 q hq).1; omega)).more (B := w.heap.size) (fun q hq => by have := (hl1 q hq).1; omega)
      have hrow2 := (HM.out.uids.only ho7 (fun q hq e => by have := (hl2 q hq).1; omega)).more (B := w.heap.size) (fun q hq => by have := (hl2 q hq).1; omega)
      have hall : All2 (MsgA w7 A1) vs1 (addAll b ps).msgs := HM.out.box.all.mono (fun v x ⟨B, m, d, h1, h2, h3, h4⟩ => ⟨B, m, d, h1, h2.keep ho7 (fun b hb => hb ▸ hnb), h3, h4⟩)
      have hbw7 : Below w.heap.size w w7 := HBS.out.trans ((HB.out.mono HBS.out.size).trans (ho7.below (by have := HB.out.size; omega) (fun b hb e => by omega)))
      have HH := Lib.hid hh
      have HRW := Lib.hid hrow
      have HRW2 := Lib.hid hrow2
      have HAL := Lib.hid hall
      have HBW7 := Lib.hid hbw7
      clear hw7 ho7 hh hnb hl1 hl2 hss hrow hrow2 hall hbw7
      try simp only [Exit.inBlock, Exit.then]
      refine bodyPost_ret (results_cell_tmp2 rfl _ _ (w.heap.size + 1 + 1) 49 _ (0, 0) rfl HH.out row49 size49) rfl ?_
      have hbb := HBB.out
      subst hbb
      have hos : octS ps ≤ octS msF := by
        have h1 := HOS.out
        have h2 := List.take_append_drop i msF
        have h3 : octS msF = octS (msF.take i) + octS (msF.drop i) := by
          have h4 : octS (msF.take i ++ msF.drop i) = octS (msF.take i) + octS (msF.drop i) := by unfold octS; rw [List.map_append, List.sum_append]
          rwa [h2] at h4
        omega
      exact .inr ⟨ps, A1, n1, c1, vs1, G, k, kc, HM.out.ok, HM.out.next, hos, rfl, HRW.out, HAL.out, HRW2.out, HBW7.out⟩
end Go.Proofs.YtlhaempecidohaaGreatDoor
