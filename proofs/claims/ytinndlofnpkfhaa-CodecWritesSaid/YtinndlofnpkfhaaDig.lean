/-
  The walk of sum.Digest.
-/
import Derived.Test.YtinndlofnpkfhaaMix
import Derived.Test.YtinndlofnpkfhaaPadded
import Derived.Test.YtinndlofnpkfhaaShaL
namespace Go.Proofs.Ytinndlofnpkfhaa
open Go.RowKit

theorem agg79 (w : World) : (isAgg 79).run Try.prog w = .ok true w := by
  unfold isAgg
  rw [Sem.run_bind, run_underlying y79 w]; rfl
theorem size79 (w : World) : (sizeOf 79).run Try.prog w = .ok 8 w := by
  have := s79
  cases hq : Try.prog.info? 79 with
  | none => simp [hq] at this
  | some i => simp [hq] at this; simp [sizeOf, typeInfo, hq, this]
theorem cells_ar {w w' : World} {g : Nat} {k : IntKind} {T : TypeId} {l : List Nat} (h : Ar w g k T l) (n : Nat) (hn : l.length = n) (hw : w'.heap = w.heap) :
    (loadCellsFrom ⟨g, 0, none⟩ 0 n #[]).run Try.prog w' = .ok (mk k l) w' := by
  subst hn
  have h' := h.heap hw
  have := run_loadCells_list (P := Try.prog) w' ⟨g, 0, none⟩ (mk k l).toList (fun j v hv => by
    have hadd : (⟨g, 0, none⟩ : Addr).add j = ⟨g, j, none⟩ := by unfold Addr.add; split <;> simp_all
    rw [hadd, cell_of_row _ _ j _ T (0, 0) h']
    simpa using hv)
  simpa [loadCells, mk_size] using this
theorem slice_h (A : Option Addr) (n c k : Nat) (hk : k ≤ c) (w : World) :
    (Instr.slice 22 (.slice A n c) none (some (.int .i64 (k : Int))) none).run Try.prog w = .ok (.slice A k c) w := by
  obtain ⟨i, hi, -, hz1, -⟩ := info_parts Try.info5
  have := run_slice_h (P := Try.prog) (w := w) 22 A n c (by kernel_rfl) .i64 k (by omega) (by omega)
  rw [this]
  simp [sizeOf, typeInfo, hi, hz1, sliced, Program.elem]
  intro _
  cases A with
  | none => rfl
  | some a => simp [Addr.add]
theorem iv_list : Sha.iv.list = [0x6a09e667, 0xbb67ae85, 0x3c6ef372, 0xa54ff53a, 0x510e527f, 0x9b05688c, 0x1f83d9ab, 0x5be0cd19] := rfl
theorem still_load_ar {ops : Array Oper} {rest : List Oper} {o : Oper} {a : Act} {w : World} {Q : Act → Prop} (hgd : o.guard = none) (T : TypeId) (x : Operand) (ho : o.op = .load T x)
    (g : Nat) (hx : a.eval x = .pointer (some ⟨g, 0, none⟩)) (k : IntKind) (l : List Nat) (hg : Ar w g k T l)
    (n : Nat) (e : TypeId) (hu : Try.prog.underlying T = some (.array n e)) (hi : (Try.prog.info? T).map (·.size) = some l.length)
    (h : wpStill Try.prog ops w Q rest (a.put o.dst (.agg (mk k l)))) : wpStill Try.prog ops w Q (o :: rest) a := by
  have hw : Region.wanted o (yielded ops a.tmps) = true := by unfold Region.wanted; rw [hgd]
  unfold wpStill
  rw [if_pos hw]
  unfold Oper.still execOp
  have hr := run_loadVar_row (P := Try.prog) w g T T (mk k l) (0, 0) _ hg hu rfl (by rw [mk_size]; exact hi)
  simp only [ho, hx, Instr.loadAt, Instr.sureAddr, Sem.run_bind, Sem.run_pure, Result.andThen_ok, hr]
  exact ⟨rfl, h⟩
theorem word4_len (L : List Nat) : (L.flatMap Sha.word4).length = 4 * L.length := by
  induction L with
  | nil => rfl
  | cons x L ih => rw [List.flatMap_cons, List.length_append, ih, List.length_cons]; show 4 + _ = _; omega
theorem word4_getD (L : List Nat) (j : Nat) : (L.flatMap Sha.word4).getD j 0 = L.getD (j / 4) 0 / 256 ^ (3 - j % 4) % 256 := by
  induction L generalizing j with
  | nil => simp
  | cons x L ih =>
    rw [List.flatMap_cons]
    match j with
    | 0 => rfl
    | 1 => rfl
    | 2 => rfl
    | 3 => show x % 256 = x / 1 % 256; rw [Nat.div_one]
    | j + 4 =>
      have e1 : (j + 4) / 4 = j / 4 + 1 := by omega
      have e2 : (j + 4) % 4 = j % 4 := by omega
      rw [e1, e2]
      exact ih j
theorem isSched (b : List Nat) (hb : ∀ x ∈ b, x < 256) : IsSched b (Sha.sched b) := ⟨Sha.sched_len b, Sha.sched_lt b hb, Sha.sched_first b, Sha.sched_next b⟩
theorem mix_is (A : Option Addr) (n c : Nat) (b : List Nat) (w : World) (hb : RB w A n b) (hn : 64 ≤ n) (st : Sha.St) (hst : st.ok) :
    Calls Try.prog 54 #[.agg (mk .u32 st.list), .slice A n c] w fun e w' => e = .returned (.agg (mk .u32 (Sha.mix st b).list)) ∧ Below w.heap.size w w' :=
  mix_any A n c b _ w hb hn (isSched b hb.2.1) st (Sha.rounds_ok _ hst)

attribute [local irreducible] Calls in
set_option maxRecDepth 8000 in
set_option maxHeartbeats 1000000 in
theorem digest_any (A : Option Addr) (n c : Nat) (b : List Nat) (w : World) (hb : RB w A n b) (hn : n ≤ 100000) :
    Calls Try.prog 39 #[.slice A n c] w fun e w' => e = .returned (.agg (mk .u8 (Sha.digest b))) ∧ Below w.heap.size w w' := by
  go_enter Try.func39, Try.ntmps39
  obtain ⟨z, hz⟩ : ∃ z, z = List.replicate 32 0 := ⟨_, rfl⟩
  obtain ⟨z8, hz8⟩ : ∃ z, z = List.replicate 8 0 := ⟨_, rfl⟩
  have hzl : z.length = 32 := by rw [hz]; simp
  have hz8l : z8.length = 8 := by rw [hz8]; simp
  have HZ := Lib.hid hz
  have HZ8 := Lib.hid hz8
  obtain ⟨iv, hiv⟩ : ∃ l, l = Sha.iv.list := ⟨_, rfl⟩
  have hivl : iv.length = 8 := by rw [hiv]; rfl
  have HIV := Lib.hid hiv
  clear hz hz8 hiv
  obtain ⟨w0, hw0, hs0, hB0, hA0⟩ := lay w .u8 58 z
  obtain ⟨w1, hw1, hs1, hB1, hA1⟩ := lay w0 .u32 79 z8
  obtain ⟨w2, hw2, hs2, hB2, hA2, hO2⟩ := putrow iv hA1
  rw [hs0] at hs1 hA1 hA2 hO2 hB2 hw2
  have HW0 := Lib.hid hw0
  have HW1 := Lib.hid hw1
  have HW2 := Lib.hid hw2
  have hA02 : Ar w2 w.heap.size .u8 58 z := (hA0.below hB1).only hO2 (by omega)
  have hB02 : Below w.heap.size w w2 := (hB0.trans (hB1.mono (by omega))).trans (hB2.mono (by omega))
  have hs2' : w2.heap.size = w.heap.size + 2 := by omega
  have hbr := hb.below hB02
  have HA1 := Lib.hid hA1
  have HS2 := Lib.hid hs2'
  have e1 : Hid (z8.length = iv.length) := by show _ = _; rw [hz8l, hivl]
  have e2 : Hid ((Try.prog.info? 79).map (·.size) = some z8.length) := by show _ = _; rw [hz8l]; exact s79
  clear hw0 hw1 hw2 hs1 hs2 hs2' hB0 hB1 hB2 hA0 hA1 hO2 hb
  go_wp2_with (first
    | (refine wpList_alloc_ar rfl 58 rfl .u8 32 z58 ?_; rw [← HZ.out, ← HW0.out])
    | (refine wpList_build_ar rfl 79 24 8 _ rfl .u32 Sha.iv.list y79 (by kernel_rfl) (by kernel_rfl) (by kernel_rfl) ?_; rw [← HIV.out])
    | (refine wpList_alloc_ar rfl 79 rfl .u32 8 z79 ?_; rw [← HZ8.out, ← HW1.out])
    | (refine wpList_store_ar rfl 79 (.tmp 3) (.tmp 7) rfl rfl w0.heap.size rfl .u32 z8 iv rfl (by rw [hs0]; exact HA1.out) e2.out e1.out ?_; rw [hs0, ← HW2.out]))
  clear HW0 HW1 HW2 HA1 e1 e2
  refine (padded_any A n c b w2 hbr hn).mono ?_
  rintro e w3 ⟨A', m, c', rfl, hown, hB3⟩
  have hm : m = 64 * ((b.length + 72) / 64) := by rw [← hown.1, Sha.padded_len]
  have hbl := hbr.1
  obtain ⟨N, hN⟩ : ∃ N, N = (b.length + 72) / 64 := ⟨_, rfl⟩
  rw [← hN] at hm
  have hNn : N ≤ 2000 := by omega
  have hN2 : (Sha.padded b).length / 64 = N := by rw [Sha.padded_len, ← hN]; omega
  obtain ⟨pd, hpd⟩ : ∃ p, p = Sha.padded b := ⟨_, rfl⟩
  rw [← hpd] at hown hN2
  have hr0 := hown.read
  have hle := hown.le
  have hA3 : Ar w3 (w.heap.size + 1) .u32 79 (Sha.blocks pd 0).list := by have := hA2.below hB3; rw [HIV.out] at this; exact this
  have hA03 := hA02.below hB3
  have hB03 : Below w.heap.size w w3 := hB02.trans (hB3.mono (by have := HS2.out; omega))
  have HPD := Lib.hid hpd
  have HM := Lib.hid hm
  have HN2 := Lib.hid hN2
  clear hm hown hB3 hA2 hA02 hB02 hbr HS2 hN hN2 hpd hbl hs0 hivl hz8l
  go_wp2_with fail
  go_loopw [4] (fun v wr => ∃ (A'' : Option Addr) (r c'' i : Nat), v = .slice A'' r c'' ∧ r = 64 * (N - i) ∧ i ≤ N ∧ r ≤ c'' ∧ RB wr A'' r (pd.drop (64 * i)) ∧ Ar wr (w.heap.size + 1) .u32 79 (Sha.blocks pd i).list ∧ Ar wr w.heap.size .u8 58 z ∧ Below w.heap.size w wr) (fun v _ => lenV v)
  case atStart => exact ⟨A', m, c', 0, rfl, HM.out, Nat.zero_le _, hle, by simpa using hr0, hA3, hA03, hB03⟩
  case round =>
    clear hr0 hle hA3 hA03 hB03 HM
    obtain ⟨A'', r, c'', i, rfl, hr, hi, hle, hR, hA, hA0, hB⟩ := hrel
    by_cases hlt : i < N
    · have hr64 : 64 ≤ r := by omega
      have hpos : 0 < r := by omega
      have hst := Sha.blocks_ok pd i
      have hmix := mix_is A'' 64 c'' ((pd.drop (64 * i)).take 64)
      have sl : ∀ w', (Instr.slice 22 (.slice A'' r c'') (some (.int .i64 64)) none none).run Try.prog w' = .ok (.slice (cut A'' c'' 64) (r - 64) (c'' - 64)) w' := slice_l A'' r c'' 64 hr64
      have sh : ∀ w', (Instr.slice 22 (.slice A'' r c'') none (some (.int .i64 64)) none).run Try.prog w' = .ok (.slice A'' 64 c'') w' := slice_h A'' r c'' 64 (by omega)
      have hR64 := hR.take hr64
      have hRn := hR.drop (k := 64) (cap := c'') hr64 hle
      rw [List.drop_drop] at hRn
      have hl8 : (Sha.blocks pd i).list.length = 8 := rfl
      have HL8 : Hid ((Sha.blocks pd i).list.length = 8) := Lib.hid hl8
      obtain ⟨L, hL⟩ : ∃ L, L = (Sha.blocks pd i).list := ⟨_, rfl⟩
      rw [← hL] at hA HL8
      have HL := Lib.hid hL
      have HA := Lib.hid hA
      have HA0 := Lib.hid hA0
      have HB := Lib.hid hB
      have HR64 := Lib.hid hR64
      have HRN := Lib.hid hRn
      have HMIX := Lib.hid hmix
      have HR := Lib.hid hr
      clear hr hL hA hA0 hB hR64 hRn hR hmix hl8
      go_wp2_with fail
      refine wp_region_still_tail 3 (by kernel_rfl) (by kernel_rfl) ?_
      simp only [List.take_succ_cons, List.take_zero, List.drop_succ_cons, List.drop_zero]
      refine still_load_ar rfl 79 (.tmp 3) rfl (w.heap.size + 1) rfl .u32 L (HA.out.heap rfl) 8 24 y79 (HL8.out ▸ s79) ?_
      repeat still_step
      try refine wpStill_nil ?_
      change wpList _ _ _ _ _ wr.drew
      have hR64' : RB wr.drew A'' 64 ((pd.drop (64 * i)).take 64) := HR64.out
      have hcall := HMIX.out wr.drew hR64' (Nat.le_refl _) (Sha.blocks pd i) hst
      rw [← HL.out] at hcall
      have HC := Lib.hid hcall
      clear hcall hR64'
      go_wp2_with fail
      refine HC.out.mono ?_
      rintro e w4 ⟨rfl, hB4⟩
      obtain ⟨M, hM⟩ : ∃ M, M = (Sha.mix (Sha.blocks pd i) ((pd.drop (64 * i)).take 64)).list := ⟨_, rfl⟩
      rw [← hM]
      have hMl : L.length = M.length := by rw [HL8.out, hM]; rfl
      have HM' := Lib.hid hM
      have hA4 : Ar w4 (w.heap.size + 1) .u32 79 L := Ar.below (w := wr.drew) HA.out.drew hB4
      obtain ⟨w5, hw5, hs5, hB5, hA5, hO5⟩ := putrow M hA4
      have hA05 : Ar w5 w.heap.size .u8 58 z := (Ar.below (w := wr.drew) HA0.out.drew hB4).only hO5 (by omega)
      have hB4' : Below w.heap.size w w4 := (Below.drew HB.out).trans (hB4.mono HB.out.size)
      have hB5' : Below w.heap.size w w5 := hB4'.trans (hB5.mono (by omega))
      have hR5 : RB w5 (cut A'' c'' 64) (r - 64) (pd.drop (64 * i + 64)) := by
        have h4 := (show RB wr.drew _ _ _ from HRN.out).below hB4
        exact h4.store hA4 (fun j x hx => by rw [mk_get] at hx; cases hq : L[j]? <;> rw [hq] at hx <;> simp at hx) hO5
      have HA4 := Lib.hid hA4
      have HW5 := Lib.hid hw5
      have HA5 := Lib.hid hA5
      have HA05 := Lib.hid hA05
      have HB5 := Lib.hid hB5'
      have HR5 := Lib.hid hR5
      have e2 : Hid ((Try.prog.info? 79).map (·.size) = some L.length) := by show _ = _; rw [HL8.out]; exact s79
      have HML := Lib.hid hMl
      clear hM hMl hA4 hw5 hs5 hB5 hA5 hO5 hA05 hB4' hB5' hR5 hB4
      go_wp2_with (first
        | (refine wpList_store_ar rfl 79 (.tmp 3) (.tmp 18) rfl rfl (w.heap.size + 1) rfl .u32 L M rfl HA4.out e2.out HML.out ?_; rw [← HW5.out]))
      go_roundw
      case rel =>
        exact ⟨cut A'' c'' 64, r - 64, c'' - 64, i + 1, rfl, by have := HR.out; omega, hlt, by omega, HR5.out, by rw [HM'.out] at HA5; exact HA5.out, HA05.out, HB5.out⟩
      case measure => simp [lenV]; omega
    · obtain rfl : i = N := by omega
      have hr0 : r = 0 := by omega
      obtain ⟨L, hL⟩ : ∃ L, L = (Sha.blocks pd i).list := ⟨_, rfl⟩
      have hLl : L.length = 8 := by rw [hL]; rfl
      have hok := Sha.blocks_ok pd i
      rw [← hL] at hA
      have hLlt : ∀ j, L.getD j 0 < 4294967296 := by
        intro j
        rw [hL]
        obtain ⟨k0, k1, k2, k3, k4, k5, k6, k7⟩ := hok
        match j with
        | 0 => exact k0
        | 1 => exact k1
        | 2 => exact k2
        | 3 => exact k3
        | 4 => exact k4
        | 5 => exact k5
        | 6 => exact k6
        | 7 => exact k7
        | j + 8 => show (0 : Nat) < _; decide
      obtain ⟨D, hD⟩ : ∃ D, D = Sha.digest b := ⟨_, rfl⟩
      have hDL : D = L.flatMap Sha.word4 := by
        rw [hD, hL]; unfold Sha.digest; rw [← HPD.out, HN2.out]
      have HDD := Lib.hid hD
      have hDl : D.length = 32 := by rw [hDL, word4_len, hLl]
      have hDg : ∀ j, j < 32 → D.getD j 0 = L.getD (j / 4) 0 / 256 ^ (3 - j % 4) % 256 := fun j hj => by rw [hDL]; exact word4_getD L j
      have HD := Lib.hid hDg
      have HDl := Lib.hid hDl
      have HLL := Lib.hid hLl
      have HLT := Lib.hid hLlt
      have HB := Lib.hid hB
      have HA := Lib.hid hA
      have HA0 := Lib.hid hA0
      subst hr0
      clear hL hLl hok hLlt hD hDL hDl hDg hB hA hA0 hR hle hr hi hlt HPD HN2
      obtain ⟨w7, hw7, hs7, hB7, hA7⟩ := lay wr .u8 58 z
      have HW7 := Lib.hid hw7
      have HA' := Lib.hid (HA.out.below (hB7.mono (Nat.le_refl _)))
      have HA0' := Lib.hid (HA0.out.below (hB7.mono (Nat.le_refl _)))
      have HB7 := Lib.hid (HB.out.trans (hB7.mono HB.out.size))
      have HSZ := Lib.hid HB.out.size
      have HA7 := Lib.hid hA7
      obtain ⟨q, hq⟩ : ∃ q, q = wr.heap.size := ⟨_, rfl⟩
      rw [← hq] at HA7
      have HQ : Hid (w.heap.size + 2 ≤ q) := by show _ ≤ _; rw [hq]; have := HA.out.lt; omega
      have HQQ := Lib.hid hq
      clear hw7 hs7 hB7 hA7 hq HA HA0 HB
      go_wp2_with (first
        | (refine wpList_alloc_ar rfl 58 rfl .u8 32 z58 ?_; rw [← HZ.out, ← HW7.out, ← HQQ.out]))
      clear HW7 HQQ
      go_loopw [19] (fun v wl => ∃ (i : Nat) (l : List Nat), i ≤ 32 ∧ v = .int .i64 (i : Int) ∧ l.length = 32 ∧ (∀ j, j < i → l.getD j 0 = D.getD j 0) ∧ Ar wl q .u8 58 l ∧ Ar wl (w.heap.size + 1) .u32 79 L ∧ Ar wl w.heap.size .u8 58 z ∧ Below w.heap.size w wl) (fun v _ => 32 - (intOf v).toNat)
      case atStart => exact ⟨0, z, by decide, rfl, hzl, fun j hj => absurd hj (Nat.not_lt_zero _), HA7.out, HA'.out, HA0'.out, HB7.out⟩
      case round =>
        clear HA7 HA' HA0' HB7
        obtain ⟨i, l, hi, rfl, hl, hlk, hA7, hA, hA0, hB⟩ := hrel
        by_cases hlt : i < 32
        · have hi32 : (i : Int) < 32 := by omega
          have hll := HLL.out
          have hcell := hA.cellD (i := i / 4) (by omega)
          have hd1 := hA7.cellD (i := i) (by omega)
          have hd2 := hA7.frozen i
          have hxlt := HLT.out (i / 4)
          have hy := HD.out i hlt
          clear hll
          obtain ⟨p, hp⟩ : ∃ p, p = i / 4 := ⟨_, rfl⟩
          obtain ⟨m, hm⟩ : ∃ m, m = 3 - i % 4 := ⟨_, rfl⟩
          have hs : 24 - 8 * (i % 4) = 8 * m := by omega
          obtain ⟨y, hy'⟩ : ∃ y, y = D.getD i 0 := ⟨_, rfl⟩
          rw [← hp, ← hm, ← hy'] at hy
          rw [← hp] at hcell hxlt
          generalize L.getD p 0 = x at *
          have hp4 : (i : Int) / 4 = (p : Int) := by omega
          have hp8 : (p : Int) < 8 := by omega
          have hby2 : (x : Int) / 2 ^ (24 - 8 * (i % 4)) % 256 = (y : Int) := by
            have hpow : (2 : Nat) ^ (24 - 8 * (i % 4)) = 256 ^ m := by rw [hs, show (256 : Nat) = 2 ^ 8 from rfl, ← Nat.pow_mul]
            have e1 : (x : Int) / 2 ^ (24 - 8 * (i % 4)) = ((x / 2 ^ (24 - 8 * (i % 4)) : Nat) : Int) := by rw [Int.natCast_ediv, Int.natCast_pow]; rfl
            rw [e1, hy, hpow]
            generalize x / 256 ^ m = t
            omega
          have HA7 := Lib.hid hA7
          have HA := Lib.hid hA
          have HA0 := Lib.hid hA0
          have HB := Lib.hid hB
          have HL := Lib.hid hl
          have HK := Lib.hid hlk
          have HY := Lib.hid hy'
          clear hp hm hs hy hy' hA7 hA hA0 hB hl hlk hxlt
          go_wp2
          go_roundw
          case rel =>
            refine ⟨i + 1, l.set i y, hlt, by go_num, by rw [List.length_set]; exact HL.out, fun j hj => ?_, HA7.out.set i y, HA.out.other _ _ (by have := HQ.out; show w.heap.size + 1 ≠ q; omega), HA0.out.other _ _ (by have := HQ.out; show w.heap.size ≠ q; omega), HB.out.setCell (by have := HQ.out; show w.heap.size ≤ q; omega) _⟩
            rw [set_getD, HL.out]
            by_cases e : j = i
            · subst e; rw [if_pos ⟨rfl, hlt⟩, HY.out]
            · rw [if_neg (fun h => e h.1)]; exact HK.out j (by omega)
          case measure => simp [intOf]; omega
        · have hlD : l = D := ext_getD hl HDl.out (by rw [show (32 : Nat) = i by omega]; exact hlk)
          subst hlD
          clear hlk
          have hzz := hzl
          have HL := Lib.hid hl
          clear hl hzl
          go_wp2_with (first
            | (refine wpList_load_ar rfl 58 _ rfl q rfl .u8 l hA7 32 5 y58 (by rw [HL.out]; exact s58) ?_)
            | (refine wpList_store_ar rfl 58 _ _ rfl rfl w.heap.size rfl .u8 z l rfl hA0 (by rw [hzz]; exact s58) (by rw [hzz, HL.out]) ?_))
          exact bodyPost_ret (results_ar rfl _ _ w.heap.size .u8 l rfl (Ar.row hA0 l) 32 5 y58 (by rw [HL.out]; exact s58)) rfl ⟨by rw [HDD.out], below_setRow hB (Nat.le_refl _) _⟩
end Go.Proofs.Ytinndlofnpkfhaa
