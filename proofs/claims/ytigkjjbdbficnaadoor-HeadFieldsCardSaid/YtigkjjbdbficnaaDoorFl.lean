/-
  Package head: fields.
-/
import Derived.Test.YtigkjjbdbficnaaDoorCt
import Derived.Test.YtigkjjbdbficnaaDoorFd
namespace Go.Proofs.YtigkjjbdbficnaaDoor
open Go.RowKit

theorem named_b (s : U) (w : World) (hs : s.length ≤ 100000) :
    Calls Tryd.prog 21 #[.string (st s)] w fun e w' => e = .returned (.bool (nameok s)) ∧ Below w.heap.size w w' :=
  (named_any s w hs).mono fun _ _ ⟨h, _, hq⟩ => ⟨h, hq ▸ below_dn _ _⟩
theorem trim_any (s : U) (w : World) (hs : s.length ≤ 100000) :
    Calls Tryd.prog 22 #[.string (st s), .string ⟨#[32, 9]⟩] w fun e w' => e = .returned (.string (st (Lib.trimS s [32, 9]))) ∧ Below w.heap.size w w' := by
  have := Tryd.strings_Trim_ascii (st s) ⟨#[32, 9]⟩ w (by rw [st_size]; omega) (by decide) (ascii_of_all (by decide))
  rw [st_data] at this
  exact this
theorem Fs.base_le {w : World} {base base' n c : Nat} {T : TypeId} {A : Option Addr} {fs : List F} (h : Fs w base T A n c fs) (hb : base' ≤ base) : Fs w base' T A n c fs := by
  refine ⟨h.1, h.2.1, ?_⟩
  rcases h.2.2 with hn | ⟨g, cap, cur, hv, hb', r⟩
  · exact .inl hn
  · exact .inr ⟨g, cap, cur, hv, Nat.le_trans hb hb', r⟩

theorem blank_cases (s : U) : (blank s = true ∧ (s[0]? = some 32 ∨ s[0]? = some 9)) ∨ (blank s = false ∧ (s = [] ∨ ∃ y : UInt8, s[0]? = some y ∧ y.toNat ≠ 32 ∧ y.toNat ≠ 9)) := by
  unfold blank
  by_cases h1 : s[0]? = some 32
  · left; rw [decide_eq_true h1]; exact ⟨rfl, .inl h1⟩
  · by_cases h2 : s[0]? = some 9
    · left; rw [decide_eq_true h2, Bool.or_true]; exact ⟨rfl, .inr h2⟩
    · right
      rw [decide_eq_false h1, decide_eq_false h2]
      refine ⟨rfl, ?_⟩
      cases s with
      | nil => left; rfl
      | cons y r =>
        right
        refine ⟨y, rfl, fun e => h1 ?_, fun e => h2 ?_⟩
        · show some y = some 32
          rw [← UInt8.toNat_inj.1 (show y.toNat = (32 : UInt8).toNat from e)]
        · show some y = some 9
          rw [← UInt8.toNat_inj.1 (show y.toNat = (9 : UInt8).toNat from e)]
theorem st_empty_t : (st []).toList.isEmpty = true := by rw [ByteArray.toList_eq, st_data]; rfl
theorem st_empty_f {s : U} {y : UInt8} (h : s[0]? = some y) : (st s).toList.isEmpty = false := by
  rw [ByteArray.toList_eq, st_data]
  cases s with
  | nil => cases h
  | cons y r => rfl
theorem st_at0 {s : U} {y : UInt8} (h : s[0]? = some y) (w : World) : (Instr.index 9 (.string (st s)) (.int .i64 0)).run Tryd.prog w = .ok (.int .u8 (y.toNat : Int)) w := st_at s h w
theorem st_at32 {s : U} (h : s[0]? = some 32) (w : World) : (Instr.index 9 (.string (st s)) (.int .i64 0)).run Tryd.prog w = .ok (.int .u8 32) w := st_at s h w
theorem st_at9 {s : U} (h : s[0]? = some 9) (w : World) : (Instr.index 9 (.string (st s)) (.int .i64 0)).run Tryd.prog w = .ok (.int .u8 9) w := st_at s h w
theorem step_glue {s : U} {fs : List F} (h : blank s = true) : step s (fs, true) = (glue fs s, true) := by unfold step; rw [if_pos h]; rfl
theorem step_skip {s : U} {fs : List F} (h : blank s = true) : step s (fs, false) = (fs, false) := by unfold step; rw [if_pos h]; rfl
theorem step_no {s : U} {x : List F × Bool} (h : blank s = false) (hg : good s = false) : step s x = (x.1, false) := by unfold step; simp [h, hg]
theorem step_yes {s : U} {x : List F × Bool} (h : blank s = false) (hg : good s = true) : step s x = (x.1 ++ [(s.take (idx 58 s), s.drop (idx 58 s + 1))], true) := by
  unfold step
  have := (good_prog s).2 hg
  simp [h, hg, this]
theorem glue_set {fs : List F} {p : Nat} {f : F} (hp : p + 1 = fs.length) (hf : fs[p]? = some f) (s : U) : glue fs s = fs.set p (f.1, f.2 ++ s) := by
  unfold glue
  apply List.ext_getElem?
  intro j
  rw [List.getElem?_modify, List.getElem?_set, show fs.length - 1 = p by omega]
  by_cases hj : p = j
  · subst hj
    simp [hf]
    omega
  · simp [hj]
theorem run_st_add (a b : U) (ha : a.length ≤ 100000) (hb : b.length ≤ 100000) (w : World) : (Op.stringOp .add (st a) (st b)).run Tryd.prog w = .ok (.string (st (a ++ b))) w := by
  rw [← st_append]
  exact run_string_add w (st a) (st b) (by rw [st_size]; omega) (by rw [st_size]; omega)
theorem below_own {w w' : World} {B g : Nat} (h : Below B w w') (hg : B ≤ g) (j : Nat) (v : Value) : Below B w (w'.setCell ⟨g, j, none⟩ v) := h.setCell (p := ⟨g, j, none⟩) hg v

/-- What fields hands back. -/
def FieldsR (w : World) (u : U) (e : Ending) (w' : World) : Prop :=
  ∃ L k c, e = .returned (.slice L k c) ∧ Fs w' w.heap.size 43 L k c (heads u) ∧ Below w.heap.size w w'

attribute [local irreducible] Calls in
set_option maxRecDepth 8000 in
set_option maxHeartbeats 2000000 in
theorem fields_any (A : Option Addr) (n c : Nat) (u : U) (w : World) (h : RB w A n (nu u)) (hc : n ≤ c) (hn' : n ≤ 10000) :
    Calls Tryd.prog 15 #[.slice A n c] w (FieldsR w u) := by
  have hl : u.length = n := by have := h.1; rw [nu_length] at this; exact this
  have HC := Lib.hid (cut_any A n c u w h hc (by omega))
  have hh := hn_le' u
  have HP := Lib.hid (heads_pf u)
  obtain ⟨q, hq⟩ : ∃ q, q = hn u := ⟨_, rfl⟩
  obtain ⟨hU, hhU⟩ : ∃ v, v = u.take (hn u) := ⟨_, rfl⟩
  have hqn : q ≤ n := by omega
  have HQ := Lib.hid hq
  have HU := Lib.hid hhU
  clear h hl hh hq hhU
  go_enter Tryd.func15, Tryd.ntmps15
  go_wp2_with fail
  refine HC.out.mono ?_
  rintro e w1 ⟨A1, c1, A2, c2, rfl, hr1, hc1, -, hB1⟩
  rw [← HU.out, ← HQ.out] at hr1
  rw [← HQ.out] at hc1 ⊢
  have HR1 := Lib.hid hr1
  have HB1 := Lib.hid hB1
  have hwq := hB1.size
  clear hr1 hB1
  go_wp2_with fail
  go_loopw [3, 4, 6] (fun v3 v4 v6 wr => ∃ (a : Nat) (A' : Option Addr) (m c' : Nat) (L : Option Addr) (k cL : Nat) (fs : List F) (on : Bool), v3 = .slice L k cL ∧ v4 = .slice A' m c' ∧ v6 = .bool on ∧
    a + m = q ∧ m ≤ c' ∧ RB w1 A' m (nu (hU.drop a)) ∧ Fs wr w1.heap.size 43 L k cL fs ∧ Bd a (fs, on) ∧ pf hU ([], false) = pf (hU.drop a) (fs, on) ∧ Below w1.heap.size w1 wr) (fun _ v4 _ _ => lenN v4)
  case atStart => exact ⟨0, A1, q, c1, none, 0, 0, [], false, rfl, rfl, rfl, by omega, hc1, by rw [List.drop_zero]; exact HR1.out, Fs.nil _ _ _, Bd.nil, by rw [List.drop_zero], Below.refl _ _⟩
  case round =>
    obtain ⟨a, A', m, c', L, k, cL, fs, on, rfl, rfl, rfl, ham, hmc, hrb, hfs, hbd, hpf, hB⟩ := hrel
    obtain ⟨v, hv⟩ : ∃ v, v = hU.drop a := ⟨_, rfl⟩
    rw [← hv] at hrb hpf
    have hvl : v.length = m := by have := hrb.1; rw [nu_length] at this; exact this
    have hkl := hfs.1
    have hka : k ≤ a := by rw [← hkl]; exact hbd.1
    have HB := Lib.hid hB
    have HV := Lib.hid hv
    have HVL := Lib.hid hvl
    have HRB := Lib.hid hrb
    have HFS := Lib.hid hfs
    have HBD := Lib.hid hbd
    have HPF := Lib.hid hpf
    have HKL := Lib.hid hkl
    have hwq2 := hB.size
    clear hB hv hvl hrb hfs hbd hpf hkl
    by_cases h0 : 0 < m
    · obtain ⟨ad, x, rfl, -, -, -⟩ := HRB.out.at_ h0
      go_wp2_with fail
      refine (line_any ad m c' v wr (HRB.out.below HB.out) hmc (by omega)).mono ?_
      rintro e w2 ⟨A3, c3, A4, c4, rfl, h12, h3, hB2⟩
      obtain ⟨-, hr4⟩ := h12 w1 (by rw [HVL.out]; exact HRB.out)
      obtain ⟨hr3, -⟩ := h12 w2 (by rw [HVL.out]; exact HRB.out.below (HB.out.trans (hB2.mono hwq2)))
      have HB2 := Lib.hid (HB.out.trans (hB2.mono hwq2))
      have hb := bare_any A3 (ln v) c3 (v.take (ln v)) w2 hr3 (by have := ln_le v; rw [HVL.out] at this; omega)
      rw [bare_ln] at hb
      have hp := ln_pos (u := v) (by rw [HVL.out]; exact h0)
      have hle := ln_le v
      have hbl := bare_lt v
      have HM := Lib.hid (pf_more (u := v) (by rw [HVL.out]; exact h0) (fs, on))
      rw [HVL.out] at hr4 h3 hle ⊢
      have HR4 := Lib.hid hr4
      have hwq3 := HB2.out.size
      have HFS2 := Lib.hid (HFS.out.below hB2)
      clear hB2 h12 hr4 hr3
      obtain ⟨j, hj⟩ : ∃ j, j = ln v := ⟨_, rfl⟩
      obtain ⟨s, hs⟩ : ∃ s, s = bareU v := ⟨_, rfl⟩
      rw [← hj] at hb hp hle hbl HM HR4 h3 ⊢
      rw [← hs] at hb hbl HM
      have HD : Hid (v.drop j = hU.drop (a + j)) := by show _ = _; rw [HV.out, List.drop_drop]
      have hbd2 := HBD.out.step' s hp (by omega)
      rw [HD.out] at HM HR4
      have HBD2 := Lib.hid hbd2
      have hsl : s.length ≤ j := by omega
      clear hj hs hbd2 hbl
      go_wp2_with fail
      refine hb.mono ?_
      rintro e w3 ⟨rfl, rfl⟩
      clear hb
      rcases blank_cases s with ⟨hbk, hy⟩ | ⟨hbk, hy⟩
      · cases on
        · -- no field goes on
          have HS := Lib.hid (step_skip (fs := fs) hbk)
          rw [HS.out] at HM HBD2
          clear hbk
          have he : (st s).toList.isEmpty = false := by rcases hy with hy | hy <;> exact st_empty_f hy
          have hi : (∀ W, (Instr.index 9 (.string (st s)) (.int .i64 0)).run Tryd.prog W = .ok (.int .u8 32) W) ∨ (∀ W, (Instr.index 9 (.string (st s)) (.int .i64 0)).run Tryd.prog W = .ok (.int .u8 9) W) := by
            rcases hy with hy | hy
            · exact .inl (st_at32 hy)
            · exact .inr (st_at9 hy)
          clear hy
          rcases hi with hi | hi
          all_goals
            go_wp2_with fail
            go_roundw
            case rel => exact ⟨a + j, A4, m - j, c4, L, k, cL, fs, false, rfl, rfl, rfl, by omega, h3, HR4.out, HFS2.out, HBD2.out, by rw [HPF.out, HM.out], HB2.out⟩
            case measure => simp [lenN]; omega
        · have HS := Lib.hid (step_glue (fs := fs) hbk)
          rw [HS.out] at HM HBD2
          have hk0 : 0 < k := by rw [← HKL.out]; exact HBD.out.2.2 rfl
          obtain ⟨p, hpk⟩ : ∃ p, p + 1 = k := ⟨k - 1, by omega⟩
          obtain ⟨f, hf⟩ : ∃ f, fs[p]? = some f := ⟨_, List.getElem?_eq_getElem (by rw [HKL.out]; omega)⟩
          have hfb := HBD.out.2.1 f (List.mem_of_getElem? hf)
          obtain ⟨g, rfl, hg1, hg2⟩ := HFS2.out.some_ hk0
          obtain ⟨-, hcl, hfz⟩ := HFS2.out.at_ hf
          have hadd := fun W => run_st_add f.2 s (by omega) (by omega) W
          have HG := Lib.hid (glue_set (by rw [HKL.out]; exact hpk) hf s)
          have HSET := Lib.hid (HFS2.out.set_ hf (f.2 ++ s))
          have HB4 := Lib.hid (below_own HB2.out hg1 (p * 2 + 1) (.string (st (f.2 ++ s))))
          rw [← HG.out] at HSET
          have x1 : (k : Int) - 1 = (p : Int) := by omega
          have x1' : IntKind.i64.wrap (p : Int) = (p : Int) := by rw [IntKind.wrap_i64]; omega
          have hpk2 : p < k := by omega
          clear hbk hf hpk hfb
          have he : (st s).toList.isEmpty = false := by rcases hy with hy | hy <;> exact st_empty_f hy
          have hi : (∀ W, (Instr.index 9 (.string (st s)) (.int .i64 0)).run Tryd.prog W = .ok (.int .u8 32) W) ∨ (∀ W, (Instr.index 9 (.string (st s)) (.int .i64 0)).run Tryd.prog W = .ok (.int .u8 9) W) := by
            rcases hy with hy | hy
            · exact .inl (st_at32 hy)
            · exact .inr (st_at9 hy)
          clear hy
          rcases hi with hi | hi
          all_goals
            generalize st (f.2 ++ s) = S3 at *
            generalize st f.2 = S2 at *
            generalize st s = S1 at *
            go_wp2_with fail
            go_roundw
            case rel => exact ⟨a + j, A4, m - j, c4, _, k, cL, glue fs s, true, rfl, rfl, rfl, by omega, h3, HR4.out, HSET.out, HBD2.out, by rw [HPF.out, HM.out], HB4.out⟩
            case measure => simp [lenN]; omega
      · have hE : ((st s).toList.isEmpty = true) ∨ ((st s).toList.isEmpty = false ∧ ∃ y : Nat, (∀ W, (Instr.index 9 (.string (st s)) (.int .i64 0)).run Tryd.prog W = .ok (.int .u8 (y : Int)) W) ∧ ((y : Int) == 32) = false ∧ ((y : Int) == 9) = false) := by
          rcases hy with hy | ⟨y, hy, hy1, hy2⟩
          · left; rw [hy]; exact st_empty_t
          · right
            exact ⟨st_empty_f hy, y.toNat, st_at0 hy, by rw [beq_eq_false_iff_ne]; omega, by rw [beq_eq_false_iff_ne]; omega⟩
        clear hy
        have hC := fun W => scut_any s W (by omega)
        have hgp := (good_prog s).1
        by_cases hix : idx 58 s < s.length
        · rw [decide_eq_true hix, Bool.true_and] at hgp
          have hcE : cutE s = .returned (.tuple #[.string (st (s.take (idx 58 s))), .string (st (s.drop (idx 58 s + 1))), .bool true]) := by unfold cutE; rw [if_pos hix]
          rw [hcE] at hC
          have hN := fun W => named_b (s.take (idx 58 s)) W (by rw [List.length_take]; omega)
          rw [← hgp] at hN
          have hsy := step_yes (s := s) (x := (fs, on)) hbk
          obtain ⟨nm, hnm⟩ : ∃ nm, nm = s.take (idx 58 s) := ⟨_, rfl⟩
          obtain ⟨vl, hvl⟩ : ∃ vl, vl = s.drop (idx 58 s + 1) := ⟨_, rfl⟩
          rw [← hnm, ← hvl] at hsy hC
          rw [← hnm] at hN
          clear hgp hix hcE hnm hvl
          cases hgd : good s
          · rw [hgd] at hN
            have HS := Lib.hid (step_no (x := (fs, on)) hbk hgd)
            rw [HS.out] at HM HBD2
            clear hbk hgd hsy
            rcases hE with he | ⟨he, y, hi, t1, t2⟩
            all_goals
              go_wp2_with (first
                | (go_at_call 20; refine (hC _).mono ?_; rintro e w4 ⟨rfl, hB4⟩; have HB4 := Lib.hid (HB2.out.trans (hB4.mono hwq3)); have HFS4 := Lib.hid (HFS2.out.below hB4); clear hB4)
                | (go_at_call 21; refine (hN _).mono ?_; rintro e w5 ⟨rfl, hB5⟩; have HB5 := Lib.hid (HB4.out.trans (hB5.mono HB4.out.size)); have HFS5 := Lib.hid (HFS4.out.below hB5); clear hB5))
              go_roundw
              case rel => exact ⟨a + j, A4, m - j, c4, L, k, cL, fs, false, rfl, rfl, rfl, by omega, h3, HR4.out, HFS5.out, HBD2.out, by rw [HPF.out, HM.out], HB5.out⟩
              case measure => simp [lenN]; omega
          · rw [hgd] at hN
            have HS := Lib.hid (hsy hgd)
            rw [HS.out] at HM HBD2
            clear hbk hgd hsy
            rcases hE with he | ⟨he, y, hi, t1, t2⟩
            all_goals
              go_wp2_with (first
                | (go_at_call 20; refine (hC _).mono ?_; rintro e w4 ⟨rfl, hB4⟩; have HB4 := Lib.hid (HB2.out.trans (hB4.mono hwq3)); have HFS4 := Lib.hid (HFS2.out.below hB4); clear hB4)
                | (go_at_call 21; refine (hN _).mono ?_; rintro e w5 ⟨rfl, hB5⟩; have HB5 := Lib.hid (HB4.out.trans (hB5.mono HB4.out.size)); have hB6 : Below w5.heap.size w5 (w5.alloc (.cells #[.string (st nm), .string (st vl)] 43)) := (Below.refl _ _).alloc (Nat.le_refl _) _; have hfs6 := (HFS4.out.below hB5).below hB6; have hcells := new_cells w5 43 (nm, vl); have HB6 := Lib.hid (HB5.out.trans (hB6.mono HB5.out.size)); have hwq6 := HB6.out.size; clear hB5 hB6)
                | (refine Great.wpList_buildTo rfl 43 _ rfl (some 67) rfl #[.string (st nm), .string (st vl)] (built43 _ _) ?_)
                | (at_builtin; refine wp_append_f rfl (.tmp 64) (.tmp 68) 40 43 und40 inf43 rfl rfl rfl hfs6 hcells (by omega) hwq6 ?_; intro A7 c7 w7 hfs7 ho7))
              have HFS7 := Lib.hid hfs7
              have HB7 := Lib.hid (HB6.out.trans (ho7.below hwq6 (fun i hi e => by have := (hfs6.lt i e).1; omega)))
              clear hfs6 hcells hfs7 ho7
              go_roundw
              case rel => exact ⟨a + j, A4, m - j, c4, A7, k + 1, c7, fs ++ [(nm, vl)], true, rfl, rfl, rfl, by omega, h3, HR4.out, HFS7.out, HBD2.out, by rw [HPF.out, HM.out], HB7.out⟩
              case measure => simp [lenN]; omega
        · rw [decide_eq_false hix, Bool.false_and] at hgp
          have hcE : cutE s = .returned (.tuple #[.string (st s), .string (st []), .bool false]) := by unfold cutE; rw [if_neg hix]
          rw [hcE] at hC
          have HS := Lib.hid (step_no (x := (fs, on)) hbk hgp)
          rw [HS.out] at HM HBD2
          clear hbk hgp hix hcE
          rcases hE with he | ⟨he, y, hi, t1, t2⟩
          all_goals
            go_wp2_with (first
              | (go_at_call 20; refine (hC _).mono ?_; rintro e w4 ⟨rfl, hB4⟩; have HB4 := Lib.hid (HB2.out.trans (hB4.mono hwq3)); have HFS4 := Lib.hid (HFS2.out.below hB4); clear hB4))
            go_roundw
            case rel => exact ⟨a + j, A4, m - j, c4, L, k, cL, fs, false, rfl, rfl, rfl, by omega, h3, HR4.out, HFS4.out, HBD2.out, by rw [HPF.out, HM.out], HB4.out⟩
            case measure => simp [lenN]; omega
    · -- every line is read: the values' blanks
      have hvz : v.length = 0 := by rw [HVL.out]; omega
      have HPE : Hid (heads u = fs.map trimV) := by show _ = _; rw [HP.out, ← HU.out, HPF.out, pf_nil hvz]
      have hfs0 : Fs wr w1.heap.size 43 L k cL ((fs.take 0).map trimV ++ fs.drop 0) := HFS.out
      have HFS0 := Lib.hid hfs0
      have hka2 : k ≤ 10000 := by omega
      clear hvz hfs0
      obtain ⟨W0, hW0⟩ : ∃ W0, W0 = wr := ⟨_, rfl⟩
      go_wp2_with fail
      go_loopw [72] (fun v wr => ∃ i : Nat, v = .int .i64 (i : Int) ∧ i ≤ k ∧ Fs wr w1.heap.size 43 L k cL ((fs.take i).map trimV ++ fs.drop i) ∧ Below w1.heap.size w1 wr) (fun v _ => k - (intOf v).toNat)
      case atStart => exact ⟨0, rfl, Nat.zero_le _, HFS0.out, HB.out⟩
      case round =>
        obtain ⟨i, rfl, hik, hfs, hB⟩ := hrel
        have HFSI := Lib.hid hfs
        have HBI := Lib.hid hB
        have hwqi := hB.size
        clear hfs hB
        by_cases hlt : i < k
        · obtain ⟨f, hf⟩ : ∃ f, fs[i]? = some f := ⟨_, List.getElem?_eq_getElem (by rw [HKL.out]; exact hlt)⟩
          have hfb := HBD.out.2.1 f (List.mem_of_getElem? hf)
          have hfi : ((fs.take i).map trimV ++ fs.drop i)[i]? = some f := by
            rw [List.getElem?_append_right (by simp [Nat.min_le_left]), List.length_map, List.length_take, Nat.min_eq_left (by rw [HKL.out]; omega), Nat.sub_self, List.getElem?_drop, Nat.add_zero, hf]
          obtain ⟨g, rfl, hg1, hg2⟩ := HFSI.out.some_ (by omega)
          obtain ⟨-, hcl, -⟩ := HFSI.out.at_ hfi
          have hT := fun W => trim_any f.2 W (by omega)
          have HSET : Hid (((fs.take i).map trimV ++ fs.drop i).set i (f.1, Lib.trimS f.2 [32, 9]) = (fs.take (i + 1)).map trimV ++ fs.drop (i + 1)) := by
            show _ = _
            have e1 : ((fs.take i).map trimV).length = i := by rw [List.length_map, List.length_take, Nat.min_eq_left (by rw [HKL.out]; omega)]
            have e2 : fs.drop i = f :: fs.drop (i + 1) := by
              rw [List.drop_eq_getElem_cons (by rw [HKL.out]; exact hlt)]
              congr 1
              exact (List.getElem?_eq_some_iff.1 hf).2
            rw [List.set_append_right _ _ (by omega), e1, Nat.sub_self, e2, List.set_cons_zero, List.take_add_one, hf]
            simp [trimV]
          have HFI := Lib.hid hfi
          clear hf hfb hfi
          go_wp2_with fail
          refine (hT _).mono ?_
          rintro e w2 ⟨rfl, hB2⟩
          have hfs2 := HFSI.out.below hB2
          obtain ⟨-, hcl2, hfz2⟩ := hfs2.at_ HFI.out
          have hset := hfs2.set_ HFI.out (Lib.trimS f.2 [32, 9])
          rw [HSET.out] at hset
          have HS2 := Lib.hid hset
          have HB2 := Lib.hid (below_own (HBI.out.trans (hB2.mono hwqi)) hg1 (i * 2 + 1) (.string (st (Lib.trimS f.2 [32, 9]))))
          clear hfs2 hset hB2 hcl
          generalize st (Lib.trimS f.2 [32, 9]) = S2 at *
          generalize st f.2 = S1 at *
          go_wp2_with fail
          go_roundw
          case rel => exact ⟨i + 1, by go_num, hlt, HS2.out, HB2.out⟩
          case measure => simp [intOf]; omega
        · obtain rfl : i = k := by omega
          have hfin := HFSI.out
          rw [List.take_of_length_le (by rw [HKL.out]; exact Nat.le_refl _), List.drop_of_length_le (by rw [HKL.out]; exact Nat.le_refl _), List.append_nil, ← HPE.out] at hfin
          have HF := Lib.hid (hfin.base_le hwq)
          clear hfin
          go_wp2
          go_ret
          exact ⟨L, i, cL, rfl, HF.out, HB1.out.trans (HBI.out.mono hwq)⟩
end Go.Proofs.YtigkjjbdbficnaaDoor
