/-
  The reference's Head.
-/
import Derived.Test.YtigkjjbdbficnaaDoorRt
import Derived.Deep.Cut
import Derived.Deep.CutRange
import Derived.Deep.DeepCutAuto
import Derived.Deep.CutBlock
import Derived.StillTailTactics
import Derived.Deep.RegionLaw
namespace Go.Proofs.YtigkjjbdbficnaaDoor
open Go.RowKit

theorem RB.at8 {w : World} {A : Option Addr} {n : Nat} {u : U} (h : RB w A n (nu u)) {k : Nat} (hk : k < n) :
    ∃ ad y, A = some ad ∧ u[k]? = some y ∧ w.cell? (ad.add k) = some (.int .u8 (y.toNat : Int)) := by
  obtain ⟨ad, x, e, hx, -, hc⟩ := h.at_ hk
  have : nu u = u.map UInt8.toNat := rfl
  rw [this, List.getElem?_map, Option.map_eq_some_iff] at hx
  obtain ⟨y, hy, rfl⟩ := hx
  exact ⟨ad, y, e, hy, hc⟩
theorem name_cases (s : U) : (good s = false ∧ kk s = s.length) ∨ (good s = false ∧ kk s < s.length ∧ ∃ x : UInt8, s[kk s]? = some x ∧ x.toNat ≠ 58 ∧ (x.toNat < 33 ∨ 126 < x.toNat)) ∨
    (kk s < s.length ∧ s[kk s]? = some 58 ∧ good s = decide (0 < kk s)) := by
  have hkl : kk s ≤ s.length := List.findIdx_le_length
  by_cases hk : kk s < s.length
  · right
    have hp := List.findIdx_getElem (p := fun c => !(okc c) || c == 58) (xs := s) (w := hk)
    have hat : s[kk s]? = some s[kk s] := List.getElem?_eq_getElem hk
    have hp' : (!(okc s[kk s]) || s[kk s] == 58) = true := hp
    by_cases h58 : s[kk s] = 58
    · right
      rw [h58] at hat
      exact ⟨hk, hat, by unfold good; rw [hat, decide_eq_true rfl, Bool.and_true]⟩
    · left
      refine ⟨?_, hk, s[kk s], hat, fun e => h58 (UInt8.toNat_inj.1 e), ?_⟩
      · unfold good
        rw [hat, decide_eq_false (p := some s[kk s] = some 58) (fun e => h58 (by injection e)), Bool.and_false]
      · have h2 : okc s[kk s] = false := by
          rcases Bool.or_eq_true_iff.1 hp' with h | h
          · simpa using h
          · exact absurd (by simpa using h) h58
        unfold okc at h2
        rw [Bool.and_eq_false_iff] at h2
        simp only [decide_eq_false_iff_not] at h2
        omega
  · left
    refine ⟨?_, by omega⟩
    unfold good
    rw [List.getElem?_eq_none (by omega), decide_eq_false (p := none = some 58) (by intro h; cases h), Bool.and_false]
theorem kk_in {s : U} {j : Nat} (h : j < kk s) : ∃ x : UInt8, s[j]? = some x ∧ x.toNat ≠ 58 ∧ 33 ≤ x.toNat ∧ x.toNat ≤ 126 := by
  have hkl : kk s ≤ s.length := List.findIdx_le_length
  have h1 := List.not_of_lt_findIdx (p := fun c => !(okc c) || c == 58) (xs := s) h
  have hj : j < s.length := by omega
  refine ⟨s[j], List.getElem?_eq_getElem hj, ?_⟩
  have h2 : (!(okc s[j]) || s[j] == 58) = false := by simpa using h1
  rw [Bool.or_eq_false_iff] at h2
  obtain ⟨h3, h4⟩ := h2
  have h5 : okc s[j] = true := by simpa using h3
  unfold okc at h5
  simp only [Bool.and_eq_true, decide_eq_true_eq] at h5
  refine ⟨fun e => ?_, h5.1, h5.2⟩
  have : s[j] = 58 := UInt8.toNat_inj.1 e
  rw [this] at h4
  simp at h4

theorem t1_cases (t : U) : (t = [] ∧ t1 13 t = []) ∨ (∃ (p : Nat) (b : UInt8), p + 1 = t.length ∧ t[p]? = some b ∧ ((b = 13 ∧ t1 13 t = t.take p) ∨ (b.toNat ≠ 13 ∧ t1 13 t = t))) := by
  by_cases h0 : t.length = 0
  · left
    have := List.eq_nil_of_length_eq_zero h0
    subst this
    exact ⟨rfl, rfl⟩
  · right
    have hp : t.length - 1 + 1 = t.length := by omega
    refine ⟨t.length - 1, t[t.length - 1], hp, List.getElem?_eq_getElem (by omega), ?_⟩
    have hg : t.getLast? = some t[t.length - 1] := by rw [List.getLast?_eq_getElem?, List.getElem?_eq_getElem (by omega)]
    unfold t1
    by_cases h : t[t.length - 1] = 13
    · left
      refine ⟨h, ?_⟩
      rw [hg, h, if_pos rfl, List.dropLast_eq_take]
    · right
      refine ⟨fun e => h (UInt8.toNat_inj.1 e), ?_⟩
      rw [hg, if_neg (fun e => h (by injection e))]

theorem step_append_f {w : World} {ops : Array Oper} {o : Oper} {a : Act} {K : Act → World → Prop} {Q : Exit → Act → World → Prop} {Z : Prop} (hgd : o.guard = none) (s x : Operand) (S T : TypeId)
    (hu : Tryd.prog.underlying S = some (.slice T)) (hi : (Tryd.prog.info? T).map (fun i => (i.zero, i.size, i.bytes)) = some (some (.agg #[.string ⟨#[]⟩, .string ⟨#[]⟩]), 2, 32))
    (ho : o.op = .call { callee := .builtin .append, args := #[s, x], argTypes := #[S, S] })
    {base : Nat} {A : Option Addr} {n c : Nat} {fs : List F} {g cx : Nat} {f : F} (hs : a.eval s = .slice A n c) (hx : a.eval x = .slice (some ⟨g, 0, none⟩) 1 cx) (hown : Fs w base T A n c fs)
    (hg : ∀ (j : Nat) u, (fcells f)[j]? = some u → w.cell? ⟨g, j, none⟩ = some u) (hlen : n ≤ 1000000) (hbase : base ≤ w.heap.size)
    (h : ∀ A' c' w', Fs w' base T A' (n + 1) c' (fs ++ [f]) → Only (fun k => blk A = some k) w w' → K (a.put o.dst (.slice A' (n + 1) c')) w') :
    if Region.wanted o (yielded ops a.tmps) = true then Oper.wp Tryd.prog o a w K Q else Z := by
  have hw : Region.wanted o (yielded ops a.tmps) = true := by simp [Region.wanted, hgd]
  rw [if_pos hw]
  obtain ⟨i, hi, hz0, hz1, hz2⟩ := info_parts hi
  obtain ⟨v', w', hrun, h2, h3, _, h5⟩ := run_append_own_at (P := Tryd.prog) w base S o.type T i _ 2 32 hu hi hz0 hz1 hz2 rfl (by decide) _ n _ hown.2 ⟨g, 0, none⟩ 1 cx (fcells f) rfl
    (fun j u hu => by
      have hadd : (⟨g, 0, none⟩ : Addr).add j = ⟨g, j, none⟩ := by unfold Addr.add; split <;> simp_all
      rw [hadd]; exact hg j u hu)
    (by simp [fcells, Value.oneCell']) (by unfold maxLen; omega) (by omega) hbase
  rw [← frows_snoc] at h2
  have hex : ∃ A' c', v' = .slice A' (n + 1) c' := by
    rcases h2.2 with ⟨hv, h0⟩ | ⟨g, cap, cur, hv, _⟩
    · omega
    · exact ⟨_, _, hv⟩
  obtain ⟨A', c', hv⟩ := hex
  subst hv
  rw [ownBlock_slice] at h3
  have hK2 := h A' c' w' ⟨by rw [List.length_append, hown.1]; rfl, h2⟩ (Only.of_grown h3 (fun k hk => hk))
  unfold Oper.wp execOp
  simp only [ho, resolve, invoke, builtin, Sem.run_bind, Sem.run_pure, Result.andThen_ok, List.map_toArray, List.map_cons, List.map_nil, hs, hx, hrun]
  exact hK2

/-- What Head hands back. -/
def HeadR (w : World) (u : U) (e : Ending) (w' : World) : Prop :=
  ∃ L k c, e = .returned (.tuple #[.int .i64 (hn u : Int), .slice L k c]) ∧ Fs w' w.heap.size 33 L k c (heads u) ∧ Below w.heap.size w w'

attribute [local irreducible] Calls in
set_option maxRecDepth 8000 in
set_option maxHeartbeats 2000000 in
theorem head_any (A : Option Addr) (n c : Nat) (u : U) (w : World) (h : RB w A n (nu u)) (hc : n ≤ c) (hn' : n ≤ 10000) :
    Calls Tryd.prog 7 #[.slice A n c] w (HeadR w u) := by
  have hl : u.length = n := by have := h.1; rw [nu_length] at this; exact this
  have HR := Lib.hid h
  have HL := Lib.hid hl
  clear h hl
  go_enter Tryd.func7, Tryd.ntmps7
  go_wp2
  go_loopw [4, 5, 6] (fun v4 v5 v6 wr => ∃ (a : Nat) (L : Option Addr) (k cL : Nat) (fs : List F) (on : Bool), v4 = .slice L k cL ∧ v5 = .bool on ∧ v6 = .int .i64 (a : Int) ∧ a ≤ n ∧
    Fs wr w.heap.size 33 L k cL fs ∧ Bd a (fs, on) ∧ ph u ([], false) = ph (u.drop a) (fs, on) ∧ hn u = a + hn (u.drop a) ∧ Below w.heap.size w wr) (fun _ _ v6 _ => n - (intOf v6).toNat)
  case atStart => exact ⟨0, none, 0, 0, [], false, rfl, rfl, rfl, Nat.zero_le _, Fs.nil _ _ _, Bd.nil, by rw [List.drop_zero], by simp, Below.refl _ _⟩
  case round =>
    obtain ⟨a, L, k, cL, fs, on, rfl, rfl, rfl, han, hfs, hbd, hpf, hhn, hB⟩ := hrel
    obtain ⟨v, hv⟩ : ∃ v, v = u.drop a := ⟨_, rfl⟩
    rw [← hv] at hpf hhn
    have hvl : v.length = n - a := by rw [hv, List.length_drop, HL.out]
    have hkl := hfs.1
    have hka : k ≤ a := by rw [← hkl]; exact hbd.1
    have HB := Lib.hid hB
    have HV := Lib.hid hv
    have HVL := Lib.hid hvl
    have HFS := Lib.hid hfs
    have HBD := Lib.hid hbd
    have HPF := Lib.hid hpf
    have HN := Lib.hid hhn
    have HKL := Lib.hid hkl
    have hwq2 := hB.size
    clear hB hv hvl hfs hbd hpf hkl hhn
    by_cases h0 : a < n
    · have hnl := nl_le v
      rw [HVL.out] at hnl
      obtain ⟨E, hE⟩ : ∃ E, E = a + nl v := ⟨_, rfl⟩
      have hEn : E ≤ n := by omega
      have haE : a ≤ E := by omega
      have HE := Lib.hid hE
      clear hE hnl
      go_upto_block 2 with fail
      go_cut [7] from 17 to 29 (fun v7 wx => v7 = .int .i64 (E : Int) ∧ wx = wr)
      case first => as_aux_lemma =>
        go_wp2_with fail
        go_loop [7] (fun v7 => ∃ e : Nat, v7 = .int .i64 (e : Int) ∧ a ≤ e ∧ e ≤ E) (fun v7 => n - (intOf v7).toNat)
        case atStart => exact ⟨a, rfl, Nat.le_refl _, haE⟩
        case round =>
          obtain ⟨e, rfl, hae, heE⟩ := hrel
          by_cases hlt : e < E
          · obtain ⟨ad, y, rfl, hy, hcell⟩ := (HR.out.below (HB.out.mono (Nat.le_refl _))).at8 (k := e) (by omega)
            have hne : ((y.toNat : Int) != 10) = true := by
              rw [bne_iff_ne]
              intro e10
              have : y = 10 := UInt8.toNat_inj.1 (show y.toNat = (10 : UInt8).toNat from by show y.toNat = 10; omega)
              have hh := idx_not (c := 10) (u := v) (j := e - a) (by have := HE.out; unfold nl at this; omega)
              rw [HV.out, List.getElem?_drop, show a + (e - a) = e by omega, hy, this] at hh
              exact hh rfl
            obtain ⟨yn, hyn⟩ : ∃ yn, yn = y.toNat := ⟨_, rfl⟩
            rw [← hyn] at hcell hne
            clear hy hyn
            go_wp2_with fail
            go_round
            case rel => exact ⟨e + 1, by go_num, by omega, hlt⟩
            case measure => simp [intOf]; omega
          · obtain rfl : e = E := by omega
            by_cases hen : e < n
            · obtain ⟨ad, y, rfl, hy, hcell⟩ := (HR.out.below HB.out).at8 (k := e) hen
              have hh := idx_at (c := 10) (u := v) (by have := HE.out; have := HVL.out; unfold nl at *; omega)
              rw [HV.out, List.getElem?_drop, ← HV.out] at hh
              rw [show a + idx 10 v = e from HE.out.symm, hy] at hh
              injection hh with hh
              rw [hh] at hcell
              have hcell2 : wr.cell? (ad.add e) = some (.int .u8 10) := hcell
              clear hh hy hcell
              go_wp2_with fail
              go_meet
              exact ⟨rfl, rfl⟩
            · go_wp2_with fail
              go_meet
              exact ⟨rfl, rfl⟩
      case rest =>
        obtain ⟨rfl, hwc⟩ := hcut
        subst hwc
        obtain ⟨cl, hcl⟩ : ∃ cl, cl = decide (nl v < v.length) := ⟨_, rfl⟩
        have hclI : decide ((E : Int) < (n : Int)) = cl := by
          rw [hcl, HVL.out]
          have := HE.out
          exact decide_eq_decide.2 (by omega)
        have hclN : Hid (decide (E < n) = cl) := by
          show _ = _
          rw [hcl, HVL.out]
          have := HE.out
          exact decide_eq_decide.2 (by omega)
        have HCL := Lib.hid hcl
        obtain ⟨nx, hnx⟩ : ∃ nx, nx = a + ln v := ⟨_, rfl⟩
        have hmin : min ((E : Int) + 1) (n : Int) = (nx : Int) := by
          have := HE.out
          have := HVL.out
          rw [hnx]
          unfold ln
          omega
        have HNX := Lib.hid hnx
        have hnxn : nx ≤ n := by have := ln_le v; have := HVL.out; omega
        have hanx : a < nx := by have := ln_pos (u := v) (by rw [HVL.out]; omega); omega
        obtain ⟨t, ht⟩ : ∃ t, t = v.take (nl v) := ⟨_, rfl⟩
        have htl : t.length = E - a := by rw [ht, List.length_take, HVL.out]; have := HE.out; omega
        have hrb : RB wc (cut A c a) (E - a) (nu t) := by
          have := (HR.out.below HB.out).mid (lo := a) (hi := E) haE (by omega) hc
          rw [nu_drop, nu_take, ← HV.out, show E - a = nl v by have := HE.out; omega, ← ht] at this
          rw [show E - a = nl v by have := HE.out; omega]
          exact this
        have hcv := conv_u hrb (c - a)
        have sl := fun W => slice_lh A n c a E haE (by omega) W
        have x1 : IntKind.i64.wrap (nx : Int) = (nx : Int) := by rw [IntKind.wrap_i64]; omega
        obtain ⟨s, hs⟩ : ∃ s, s = bareU v := ⟨_, rfl⟩
        have HS : Hid (s = t1 13 t) := by show _ = _; rw [hs, ht]; rfl
        have HSB := Lib.hid hs
        have hz := st_size t
        have hT := t1_cases t
        rw [← HS.out] at hT
        obtain ⟨cr, hcr⟩ : ∃ cr : Bool, (cr = false ∧ s = t ∧ (t = [] ∨ ∃ (p : Nat) (b : UInt8), p + 1 = t.length ∧ t[p]? = some b ∧ b.toNat ≠ 13)) ∨ (cr = true ∧ ∃ p : Nat, p + 1 = t.length ∧ t[p]? = some 13 ∧ s = t.take p) := by
          rcases hT with ⟨h1, h2⟩ | ⟨p, b, h1, h2, ⟨h3, h4⟩ | ⟨h3, h4⟩⟩
          · exact ⟨false, .inl ⟨rfl, by rw [h1, h2], .inl h1⟩⟩
          · exact ⟨true, .inr ⟨rfl, p, h1, by rw [h2, h3], h4⟩⟩
          · exact ⟨false, .inl ⟨rfl, h4, .inr ⟨p, b, h1, h2, h3⟩⟩⟩
        have HCR := Lib.hid hcr
        have HTL := Lib.hid htl
        have hsl : s.length ≤ E - a := by rw [← htl]; rw [HS.out]; exact t1_le _ _
        clear hT hcr htl hcl hnx ht hrb hs
        go_upto_region 10 with fail
        go_cut [10] from 12 to 181 (fun v10 wx => v10 = .bool cl ∧ wx = wc)
        case first => as_aux_lemma =>
          go_wp2_with fail
          go_meet
          exact ⟨by rw [← hclN.out], rfl⟩
        case rest =>
          obtain ⟨rfl, hwc⟩ := hcut
          subst hwc
          clear hcv sl
          go_upto_region 11 with fail
          go_cut [63] from 12 to 181 (fun v63 wx => v63 = .bool (cl && cr) ∧ wx = wc)
          case first => as_aux_lemma =>
            cases cl
            · have hclI2 : ¬ ((E : Int) < (n : Int)) := of_decide_eq_false hclI
              go_wp2_with fail
              go_meet
              exact ⟨rfl, rfl⟩
            · rcases HCR.out with ⟨rfl, -, h1 | ⟨p, b, hp, hb, hb13⟩⟩ | ⟨rfl, p, hp, hb, -⟩
              · subst h1
                have hz0 : (st ([] : U)).size = 0 := rfl
                go_wp2_with fail
                go_meet
                exact ⟨rfl, rfl⟩
              · have hix := fun W => st_at t hb W
                have x2 : (t.length : Int) - 1 = (p : Int) := by omega
                have hpn : p ≤ 10000 := by have := HTL.out; omega
                have x2' : IntKind.i64.wrap (p : Int) = (p : Int) := by rw [IntKind.wrap_i64]; omega
                have hp0 : 0 < t.length := by omega
                have q1 : ((b.toNat : Int) == 13) = false := by rw [beq_eq_false_iff_ne]; omega
                obtain ⟨bn, hbn⟩ : ∃ bn, bn = b.toNat := ⟨_, rfl⟩
                rw [← hbn] at hix q1
                clear hb13 hbn hb
                go_wp2_with fail
                go_meet
                exact ⟨rfl, rfl⟩
              · have hix := fun W => st_at t hb W
                have x2 : (t.length : Int) - 1 = (p : Int) := by omega
                have hpn : p ≤ 10000 := by have := HTL.out; omega
                have x2' : IntKind.i64.wrap (p : Int) = (p : Int) := by rw [IntKind.wrap_i64]; omega
                have hp0 : 0 < t.length := by omega
                have hix2 : ∀ W, (Instr.index 9 (.string (st t)) (.int .i64 (p : Int))).run Tryd.prog W = .ok (.int .u8 13) W := hix
                clear hix hb
                go_wp2_with fail
                go_meet
                exact ⟨rfl, rfl⟩
          case rest =>
            obtain ⟨rfl, hwc⟩ := hcut
            subst hwc
            go_upto_if 63 with fail
            go_cut [8] from 12 to 181 (fun v8 wx => v8 = .string (st s) ∧ wx = wc)
            case first => as_aux_lemma =>
              cases cl
              · rcases HCR.out with ⟨rfl, hs, h1 | ⟨p, b, hp, hb, hb13⟩⟩ | ⟨rfl, p, hp, hb, hs⟩
                · subst h1
                  have hz0 : (st ([] : U)).size = 0 := rfl
                  go_wp2_with fail
                  go_meet
                  exact ⟨by rw [hs], rfl⟩
                · have hix := fun W => st_at t hb W
                  have x2 : (t.length : Int) - 1 = (p : Int) := by omega
                  have hpn : p ≤ 10000 := by have := HTL.out; omega
                  have x2' : IntKind.i64.wrap (p : Int) = (p : Int) := by rw [IntKind.wrap_i64]; omega
                  have hp0 : 0 < t.length := by omega
                  have q1 : ((b.toNat : Int) == 13) = false := by rw [beq_eq_false_iff_ne]; omega
                  obtain ⟨bn, hbn⟩ : ∃ bn, bn = b.toNat := ⟨_, rfl⟩
                  rw [← hbn] at hix q1
                  clear hb13 hbn hb
                  go_wp2_with fail
                  go_meet
                  exact ⟨by rw [hs], rfl⟩
                · have hix := fun W => st_at t hb W
                  have x2 : (t.length : Int) - 1 = (p : Int) := by omega
                  have hpn : p ≤ 10000 := by have := HTL.out; omega
                  have x2' : IntKind.i64.wrap (p : Int) = (p : Int) := by rw [IntKind.wrap_i64]; omega
                  have hp0 : 0 < t.length := by omega
                  have hix2 : ∀ W, (Instr.index 9 (.string (st t)) (.int .i64 (p : Int))).run Tryd.prog W = .ok (.int .u8 13) W := hix
                  have sl2 : ∀ W, (Instr.slice 9 (.string (st t)) none (some (.int .i64 (p : Int))) none).run Tryd.prog W = .ok (.string (st s)) W := fun W => by rw [hs]; exact slice_st_h t p (by omega) W
                  clear hix hs hb
                  go_wp2_with fail
                  go_meet
                  exact ⟨rfl, rfl⟩
              · rcases HCR.out with ⟨rfl, hs, -⟩ | ⟨rfl, p, hp, hb, hs⟩
                · go_wp2_with fail
                  go_meet
                  exact ⟨by rw [hs], rfl⟩
                · have x2 : (t.length : Int) - 1 = (p : Int) := by omega
                  have hpn : p ≤ 10000 := by have := HTL.out; omega
                  have x2' : IntKind.i64.wrap (p : Int) = (p : Int) := by rw [IntKind.wrap_i64]; omega
                  have sl2 : ∀ W, (Instr.slice 9 (.string (st t)) none (some (.int .i64 (p : Int))) none).run Tryd.prog W = .ok (.string (st s)) W := fun W => by rw [hs]; exact slice_st_h t p (by omega) W
                  clear hs hb
                  go_wp2_with fail
                  go_meet
                  exact ⟨rfl, rfl⟩
            case rest =>
              obtain ⟨rfl, hwc⟩ := hcut
              subst hwc
              clear hz HCR
              have HS2 : Hid (bareU v = s) := HSB.out.symm
              obtain ⟨d, hd⟩ : ∃ d : Nat, d = E - a := ⟨_, rfl⟩
              have x3 : (E : Int) - (a : Int) = (d : Int) := by omega
              have x3' : IntKind.i64.wrap (d : Int) = (d : Int) := by rw [IntKind.wrap_i64]; omega
              have HD0 : Hid (d = nl v) := by show _ = _; have := HE.out; omega
              obtain ⟨ie, hie⟩ : ∃ ie, ie = isEnd v := ⟨_, rfl⟩
              have hi2 : ie = (cl && s.isEmpty) := by rw [hie, isEnd, HCL.out, HS2.out]
              have HIE := Lib.hid hie
              have HI2 := Lib.hid hi2
              clear hie hi2 hd
              go_upto_region 15 with fail
              go_cut [99] from 12 to 181 (fun v99 wx => v99 = .bool ie ∧ wx = wc)
              case first => as_aux_lemma =>
                cases cl
                · go_wp2_with fail
                  go_meet
                  exact ⟨by rw [HI2.out]; rfl, rfl⟩
                · by_cases hs0 : s = []
                  · have he : (st s).toList.isEmpty = true := by rw [hs0]; exact st_empty_t
                    have hd1 : d ≤ 1 := by rw [HD0.out]; exact bareU_nil (by rw [HS2.out, hs0])
                    have HT2 : Hid (ie = true) := by show _ = _; rw [HI2.out, hs0]; rfl
                    have HD1 : Hid (decide ((d : Int) ≤ 1) = true) := decide_eq_true (by omega)
                    clear hs0
                    go_wp2_with fail
                    go_meet
                    exact ⟨by rw [HT2.out, HD1.out], rfl⟩
                  · have he : (st s).toList.isEmpty = false := by
                      rw [ByteArray.toList_eq, st_data]
                      cases s with
                      | nil => exact absurd rfl hs0
                      | cons _ _ => rfl
                    have HT2 : Hid (ie = false) := by
                      show _ = _
                      rw [HI2.out]
                      cases s with
                      | nil => exact absurd rfl hs0
                      | cons _ _ => rfl
                    clear hs0
                    go_wp2_with fail
                    go_meet
                    exact ⟨by rw [HT2.out], rfl⟩
              case rest =>
                obtain ⟨rfl, hwc⟩ := hcut
                subst hwc
                cases ie
                · have hp := ln_pos (u := v) (by rw [HVL.out]; omega)
                  have HM := Lib.hid (ph_more (u := v) (by rw [HVL.out]; omega) HIE.out.symm (fs, on))
                  have HN2 := Lib.hid (hn_more (u := v) (by rw [HVL.out]; omega) HIE.out.symm)
                  have hbd2 := HBD.out.step' s hp (by have := bare_lt v; rw [HS2.out] at this; omega)
                  have HD : Hid (v.drop (ln v) = u.drop nx) := by show _ = _; rw [HV.out, List.drop_drop, HNX.out, ← HV.out]
                  rw [HD.out, HS2.out] at HM
                  rw [HD.out] at HN2
                  have HN3 : Hid (hn u = nx + hn (u.drop nx)) := by show _ = _; rw [HN.out, HN2.out, HNX.out]; omega
                  rw [← HNX.out] at hbd2
                  have HBD2 := Lib.hid hbd2
                  have hsn : s.length ≤ 10000 := by omega
                  have hfk : k ≤ 10000 := by omega
                  clear hp hbd2 hclI hmin
                  rcases blank_cases s with ⟨hbk, hy⟩ | ⟨hbk, hy⟩
                  · have he : (st s).toList.isEmpty = false := by rcases hy with hy | hy <;> exact st_empty_f hy
                    have hi : (∀ W, (Instr.index 9 (.string (st s)) (.int .i64 0)).run Tryd.prog W = .ok (.int .u8 32) W) ∨ (∀ W, (Instr.index 9 (.string (st s)) (.int .i64 0)).run Tryd.prog W = .ok (.int .u8 9) W) := by
                      rcases hy with hy | hy
                      · exact .inl (st_at32 hy)
                      · exact .inr (st_at9 hy)
                    clear hy
                    cases on
                    · have HS := Lib.hid (step_skip (fs := fs) hbk)
                      rw [HS.out] at HM HBD2
                      clear hbk
                      rcases hi with hi | hi
                      all_goals
                        go_wp2_with fail
                        go_roundw
                        case rel => exact ⟨nx, L, k, cL, fs, false, rfl, rfl, rfl, hnxn, HFS.out, HBD2.out, by rw [HPF.out, HM.out], HN3.out, HB.out⟩
                        case measure => simp [intOf]; omega
                    · have HS := Lib.hid (step_glue (fs := fs) hbk)
                      rw [HS.out] at HM HBD2
                      have hk0 : 0 < k := by rw [← HKL.out]; exact HBD.out.2.2 rfl
                      obtain ⟨p, hpk⟩ : ∃ p, p + 1 = k := ⟨k - 1, by omega⟩
                      obtain ⟨f, hf⟩ : ∃ f, fs[p]? = some f := ⟨_, List.getElem?_eq_getElem (by rw [HKL.out]; omega)⟩
                      have hfb := HBD.out.2.1 f (List.mem_of_getElem? hf)
                      obtain ⟨g, rfl, hg1, hg2⟩ := HFS.out.some_ hk0
                      obtain ⟨-, hcl, hfz⟩ := HFS.out.at_ hf
                      have hadd := fun W => run_st_add f.2 s (by omega) (by omega) W
                      have HG := Lib.hid (glue_set (by rw [HKL.out]; exact hpk) hf s)
                      have HSET := Lib.hid (HFS.out.set_ hf (f.2 ++ s))
                      have HB4 := Lib.hid (below_own HB.out hg1 (p * 2 + 1) (.string (st (f.2 ++ s))))
                      rw [← HG.out] at HSET
                      have y1 : (k : Int) - 1 = (p : Int) := by omega
                      have y1' : IntKind.i64.wrap (p : Int) = (p : Int) := by rw [IntKind.wrap_i64]; omega
                      have hpk2 : p < k := by omega
                      clear hbk hf hpk hfb
                      rcases hi with hi | hi
                      all_goals
                        generalize st (f.2 ++ s) = S3 at *
                        generalize st f.2 = S2 at *
                        generalize st s = S1 at *
                        go_wp2_with fail
                        go_roundw
                        case rel => exact ⟨nx, _, k, cL, glue fs s, true, rfl, rfl, rfl, hnxn, HSET.out, HBD2.out, by rw [HPF.out, HM.out], HN3.out, HB4.out⟩
                        case measure => simp [intOf]; omega
                  · have hlt0 := st_size s
                    have HZ := Lib.hid hlt0
                    have hE : ((st s).toList.isEmpty = true) ∨ ((st s).toList.isEmpty = false ∧ ∃ y : Nat, (∀ W, (Instr.index 9 (.string (st s)) (.int .i64 0)).run Tryd.prog W = .ok (.int .u8 (y : Int)) W) ∧ ((y : Int) == 32) = false ∧ ((y : Int) == 9) = false) := by
                      rcases hy with hy | ⟨y, hy, hy1, hy2⟩
                      · left; rw [hy]; exact st_empty_t
                      · right
                        exact ⟨st_empty_f hy, y.toNat, st_at0 hy, by rw [beq_eq_false_iff_ne]; omega, by rw [beq_eq_false_iff_ne]; omega⟩
                    clear hy
                    obtain ⟨K, hK⟩ : ∃ K, K = kk s := ⟨_, rfl⟩
                    have hKl : K ≤ s.length := by rw [hK]; exact List.findIdx_le_length
                    have hNC := name_cases s
                    rw [← hK] at hNC
                    have HNC := Lib.hid hNC
                    have HK := Lib.hid hK
                    clear hK hNC
                    go_upto_region 18 with fail
                    go_cut [115] from 12 to 181 (fun v115 wx => v115 = .bool false ∧ wx = wc)
                    case first => as_aux_lemma =>
                      rcases hE with he | ⟨he, y, hi, t1, t2⟩
                      all_goals
                        go_wp2_with fail
                        go_meet
                        exact ⟨rfl, rfl⟩
                    case rest =>
                      obtain ⟨rfl, hwc⟩ := hcut
                      subst hwc
                      clear hE
                      go_upto_block 4 with fail
                      go_cut [11] from 12 to 181 (fun v11 wx => v11 = .int .i64 (K : Int) ∧ wx = wc)
                      case first => as_aux_lemma =>
                        go_wp2_with fail
                        go_loop [11] (fun v11 => ∃ j : Nat, v11 = .int .i64 (j : Int) ∧ j ≤ K) (fun v11 => K - (intOf v11).toNat)
                        case atStart => exact ⟨0, rfl, Nat.zero_le _⟩
                        case round =>
                          obtain ⟨j, rfl, hjk⟩ := hrel
                          by_cases hlt : j < K
                          · obtain ⟨x, hx, hx1, hx2, hx3⟩ := kk_in (s := s) (j := j) (by rw [← HK.out]; exact hlt)
                            have hix := fun W => st_at s hx W
                            have hjl : j < s.length := by omega
                            have q1 : ((x.toNat : Int) != 58) = true := by rw [bne_iff_ne]; omega
                            obtain ⟨y, hy⟩ : ∃ y, y = x.toNat := ⟨_, rfl⟩
                            rw [← hy] at hix hx2 hx3 q1
                            clear hy hx hx1
                            go_wp2_with fail
                            go_round
                            case rel => exact ⟨j + 1, by go_num, hlt⟩
                            case measure => simp [intOf]; omega
                          · obtain rfl : j = K := by omega
                            rcases HNC.out with ⟨-, h1⟩ | ⟨-, h1, x, hx, hx1, hx2⟩ | ⟨h1, hx, -⟩
                            · have h1' : ¬ j < s.length := by omega
                              clear h1
                              go_wp2_with fail
                              go_meet
                              exact ⟨rfl, rfl⟩
                            · have hix := fun W => st_at s hx W
                              have q1 : ((x.toNat : Int) != 58) = true := by rw [bne_iff_ne]; omega
                              obtain ⟨y, hy⟩ : ∃ y, y = x.toNat := ⟨_, rfl⟩
                              rw [← hy] at hix hx2 q1
                              clear hy hx hx1
                              rcases hx2 with hx2 | hx2
                              all_goals
                                go_wp2_with fail
                                go_meet
                                exact ⟨rfl, rfl⟩
                            · have hix : ∀ W, (Instr.index 9 (.string (st s)) (.int .i64 (j : Int))).run Tryd.prog W = .ok (.int .u8 58) W := fun W => st_at s hx W
                              clear hx
                              go_wp2_with fail
                              go_meet
                              exact ⟨rfl, rfl⟩
                      case rest =>
                        obtain ⟨rfl, hwc⟩ := hcut
                        subst hwc
                        go_upto_region 24 with fail
                        obtain ⟨gd, hgd⟩ : ∃ gd, gd = good s := ⟨_, rfl⟩
                        have HGD := Lib.hid hgd
                        clear hgd
                        go_cut [5] from 12 to 181 (fun v5 wx => v5 = .bool gd ∧ wx = wc)
                        case first => as_aux_lemma =>
                          rcases HNC.out with ⟨hg, h1⟩ | ⟨hg, h1, x, hx, hx1, hx2⟩ | ⟨h1, hx, hg⟩
                          · have HF : Hid (gd = false) := by show _ = _; rw [HGD.out, hg]
                            have hj1 : ¬ K < s.length := by omega
                            clear hg h1
                            by_cases hK0 : 0 < K
                            all_goals
                              go_wp2_with fail
                              go_meet
                              exact ⟨by rw [HF.out], rfl⟩
                          · have HF : Hid (gd = false) := by show _ = _; rw [HGD.out, hg]
                            have hix := fun W => st_at s hx W
                            have q1 : ((x.toNat : Int) == 58) = false := by rw [beq_eq_false_iff_ne]; omega
                            obtain ⟨y, hy⟩ : ∃ y, y = x.toNat := ⟨_, rfl⟩
                            rw [← hy] at hix q1
                            clear hy hx hx1 hx2 hg
                            by_cases hK0 : 0 < K
                            all_goals
                              go_wp2_with fail
                              go_meet
                              exact ⟨by rw [HF.out], rfl⟩
                          · have hix : ∀ W, (Instr.index 9 (.string (st s)) (.int .i64 (K : Int))).run Tryd.prog W = .ok (.int .u8 58) W := fun W => st_at s hx W
                            clear hx
                            by_cases hK0 : 0 < K
                            · have HF : Hid (gd = true) := by show _ = _; rw [HGD.out, hg, decide_eq_true hK0]
                              clear hg
                              go_wp2_with fail
                              go_meet
                              exact ⟨by rw [HF.out], rfl⟩
                            · have HF : Hid (gd = false) := by show _ = _; rw [HGD.out, hg, decide_eq_false hK0]
                              clear hg
                              go_wp2_with fail
                              go_meet
                              exact ⟨by rw [HF.out], rfl⟩
                        case rest =>
                          obtain ⟨rfl, hwc⟩ := hcut
                          subst hwc
                          cases gd
                          · have HS := Lib.hid (step_no (x := (fs, on)) hbk HGD.out.symm)
                            rw [HS.out] at HM HBD2
                            go_wp2_with fail
                            go_roundw
                            case rel => exact ⟨nx, L, k, cL, fs, false, rfl, rfl, rfl, hnxn, HFS.out, HBD2.out, by rw [HPF.out, HM.out], HN3.out, HB.out⟩
                            case measure => simp [intOf]; omega
                          · have HS := Lib.hid (step_yes (s := s) (x := (fs, on)) hbk HGD.out.symm)
                            have hgk := (good_prog s).2 HGD.out.symm
                            rw [← HK.out] at hgk
                            rw [← hgk] at HS
                            rw [HS.out] at HM HBD2
                            have hK1 : K < s.length := by
                              rcases HNC.out with ⟨hg, -⟩ | ⟨hg, -⟩ | ⟨h1, -⟩
                              · have := HGD.out; rw [hg] at this; cases this
                              · have := HGD.out; rw [hg] at this; cases this
                              · exact h1
                            obtain ⟨nm, hnm⟩ : ∃ nm, nm = s.take K := ⟨_, rfl⟩
                            obtain ⟨vl, hvl⟩ : ∃ vl, vl = s.drop (K + 1) := ⟨_, rfl⟩
                            have sl1 : ∀ W, (Instr.slice 9 (.string (st s)) none (some (.int .i64 (K : Int))) none).run Tryd.prog W = .ok (.string (st nm)) W := fun W => by rw [hnm]; exact slice_st_h s K (by omega) W
                            obtain ⟨K1, hK1e⟩ : ∃ K1, K1 = K + 1 := ⟨_, rfl⟩
                            have sl2 : ∀ W, (Instr.slice 9 (.string (st s)) (some (.int .i64 (K1 : Int))) none none).run Tryd.prog W = .ok (.string (st vl)) W := fun W => by rw [hvl, ← hK1e]; exact slice_st_l s K1 (by omega) W
                            have y1 : (K : Int) + 1 = (K1 : Int) := by omega
                            have y1' : IntKind.i64.wrap (K1 : Int) = (K1 : Int) := by rw [IntKind.wrap_i64]; omega
                            rw [← hnm, ← hvl] at HM HBD2
                            clear hnm hvl hgk hbk hK1e
                            have hb : Below wc.heap.size wc (wc.alloc (.cells #[.string (st nm), .string (st vl)] 33)).drew := ((Below.refl _ _).alloc (Nat.le_refl _) _).drew
                            have hB6 := HB.out.trans (hb.mono hwq2)
                            have hs6 := hB6.size
                            have hfs6 := HFS.out.below hb
                            have hlt6 := hfs6.lt
                            have hcells : ∀ (j : Nat) u, (fcells (nm, vl))[j]? = some u → (wc.alloc (.cells #[.string (st nm), .string (st vl)] 33)).drew.cell? ⟨wc.heap.size, j, none⟩ = some u := new_cells wc 33 (nm, vl)
                            clear hb
                            go_upto_region 26 with fail
                            go_region_law (refine step_append_f rfl (.tmp 171) (.tmp 180) 26 33 und26 inf33 rfl rfl rfl hfs6 hcells (by omega) hs6 ?_; intro A7 c7 w7 hfs7 ho7)
                            all_goals
                              have HFS7 := Lib.hid hfs7
                              have HB7 := Lib.hid (hB6.trans (ho7.below hs6 (fun i hi e => absurd hi (Nat.not_lt.2 (hlt6 i e).1))))
                              clear hfs7 ho7 hB6 hfs6 hlt6 hcells hs6
                              simp only [List.getElem_toArray, List.getElem_cons_succ, List.getElem_cons_zero]
                              go_simp
                              go_wp2
                              go_roundw
                              case rel => exact ⟨nx, A7, k + 1, c7, fs ++ [(nm, vl)], true, rfl, rfl, rfl, hnxn, HFS7.out, HBD2.out, by rw [HPF.out, HM.out], HN3.out, HB7.out⟩
                              case measure => simp [intOf]; omega
                · have HM := Lib.hid (ph_end (u := v) HIE.out.symm (fs, on))
                  have HN2 := Lib.hid (hn_end (u := v) (by rw [HVL.out]; omega) HIE.out.symm)
                  have HH : Hid (hn u = nx) := by show _ = _; rw [HN.out, HN2.out, HNX.out]
                  have HE2 : Hid (heads u = fs.map trimV) := by show _ = _; rw [heads, HPF.out, HM.out]
                  have hT := trimmed_any L k cL fs w.heap.size wc HFS.out (by omega) (fun f hf => by have := HBD.out.2.1 f hf; omega)
                  go_wp2_with fail
                  refine hT.mono ?_
                  rintro e w2 ⟨rfl, hf2, hB2⟩
                  have HF2 := Lib.hid hf2
                  have HB2 := Lib.hid hB2
                  clear hT hf2 hB2
                  go_wp2
                  go_ret2
                  exact ⟨L, k, cL, by rw [HH.out]; rfl, by rw [HE2.out]; exact HF2.out, HB.out.trans HB2.out⟩
    · obtain rfl : a = n := by omega
      have hvz : v.length = 0 := by rw [HVL.out]; omega
      have HH : Hid (hn u = a) := by show _ = _; rw [HN.out, hn_nil hvz]; rfl
      have HE2 : Hid (heads u = fs.map trimV) := by show _ = _; rw [heads, HPF.out, ph_nil hvz]
      have hT := trimmed_any L k cL fs w.heap.size wr HFS.out (by omega) (fun f hf => by have := HBD.out.2.1 f hf; omega)
      go_wp2_with fail
      refine hT.mono ?_
      rintro e w2 ⟨rfl, hf2, hB2⟩
      have HF2 := Lib.hid hf2
      have HB2 := Lib.hid hB2
      clear hT hf2 hB2
      go_wp2
      go_ret2
      exact ⟨L, k, cL, by rw [HH.out]; rfl, by rw [HE2.out]; exact HF2.out, HB.out.trans HB2.out⟩
end Go.Proofs.YtigkjjbdbficnaaDoor
