/-
  Package head: Cut.
-/
import Derived.Test.YtigkjjbdbficnaaDoorLn
import Derived.Test.YtigkjjbdbficnaaDoorClone
namespace Go.Proofs.YtigkjjbdbficnaaDoor
open Go.RowKit
attribute [local go_sem ↓] Go.wp_at_zero Go.wp_at_succ

def lenN : Value → Nat
  | .slice _ n _ => n
  | _ => 0
/-- What Cut hands back. -/
def CutR (w : World) (u : U) (e : Ending) (w' : World) : Prop :=
  ∃ A1 c1 A2 c2, e = .returned (.tuple #[.slice A1 (hn u) c1, .slice A2 (u.length - hn u) c2]) ∧ RB w' A1 (hn u) (nu (u.take (hn u))) ∧ hn u ≤ c1 ∧ RB w' A2 (u.length - hn u) (nu (u.drop (hn u))) ∧
    Below w.heap.size w w'

theorem below_drew {B : Nat} {w w' : World} (h : Below B w.drew w') : Below B w w' := ⟨h.os, h.tape, h.output, h.size, h.block⟩

attribute [local irreducible] Calls in
set_option maxHeartbeats 1000000 in
theorem cut_any (A : Option Addr) (n c : Nat) (u : U) (w : World) (h : RB w A n (nu u)) (hc : n ≤ c) (hn' : n ≤ 100000) :
    Calls Tryd.prog 6 #[.slice A n c] w (CutR w u) := by
  have hl : u.length = n := by have := h.1; rw [nu_length] at this; exact this
  have HR := Lib.hid h
  have HL := Lib.hid hl
  clear h hl
  go_enter Tryd.func6, Tryd.ntmps6
  go_wp2
  go_loopw [4] (fun v4 wr => ∃ (a : Nat) (A' : Option Addr) (m c' : Nat), v4 = .slice A' m c' ∧ a + m = n ∧ m ≤ c' ∧ RB wr A' m (nu (u.drop a)) ∧ hn u = a + hn (u.drop a) ∧ Below w.heap.size w wr) (fun v4 _ => lenN v4)
  case atStart => exact ⟨0, A, n, c, rfl, by omega, hc, by rw [List.drop_zero]; exact HR.out, by simp, Below.refl _ _⟩
  case round =>
    obtain ⟨a, A', m, c', rfl, ham, hmc, hrb, hhn, hB⟩ := hrel
    obtain ⟨v, hv⟩ : ∃ v, v = u.drop a := ⟨_, rfl⟩
    rw [← hv] at hrb hhn
    have hvl : v.length = m := by have := hrb.1; rw [nu_length] at this; exact this
    have HB := Lib.hid hB
    have HN := Lib.hid hhn
    have HV := Lib.hid hv
    have HVL := Lib.hid hvl
    have HRB := Lib.hid hrb
    have hwq := hB.size
    clear hB hhn hv hvl hrb
    by_cases h0 : 0 < m
    · obtain ⟨ad, x, rfl, -, -, -⟩ := HRB.out.at_ h0
      go_wp2_with fail
      refine (line_any ad m c' v wr HRB.out hmc (by omega)).mono ?_
      rintro e w1 ⟨A1, c1, A2, c2, rfl, h12, h3, hB1⟩
      obtain ⟨h1, h2⟩ := h12 w1 (by rw [HVL.out]; exact HRB.out.below hB1)
      have HB1 := Lib.hid (HB.out.trans (hB1.mono hwq))
      have hE := empty_any A1 (ln v) c1 (v.take (ln v)) w1 h1
      rw [emptyU_end] at hE
      have hp := ln_pos (u := v) (by rw [HVL.out]; exact h0)
      have hle := ln_le v
      have HV' := Lib.hid HVL.out
      rw [HVL.out] at h2 h3 hle ⊢
      have HR2 := Lib.hid h2
      have hwq1 := HB1.out.size
      clear hB1 h1 h2 h12
      cases he : isEnd v
      · rw [he] at hE
        have HM := Lib.hid (hn_more (u := v) (by rw [HVL.out]; exact h0) he)
        obtain ⟨k, hk⟩ : ∃ k, k = ln v := ⟨_, rfl⟩
        rw [← hk] at hE hp hle HM HR2 h3 ⊢
        clear hk he
        go_wp2_with (go_at_call 12; refine hE.mono ?_; rintro e w2 ⟨rfl, rfl⟩)
        go_roundw
        case rel =>
          refine ⟨a + k, A2, m - k, c2, rfl, by omega, h3, ?_, ?_, HB1.out⟩
          · rw [← List.drop_drop, ← HV.out]; exact HR2.out
          · rw [← List.drop_drop, ← HV.out, HN.out, HM.out]; omega
        case measure => simp [lenN]; omega
      · rw [he] at hE
        have HM := Lib.hid (hn_end (u := v) (by rw [HVL.out]; exact h0) he)
        obtain ⟨k, hk⟩ : ∃ k, k = ln v := ⟨_, rfl⟩
        rw [← hk] at hE hp hle HM HR2 h3 ⊢
        obtain ⟨q, hq⟩ : ∃ q, q = hn u := ⟨_, rfl⟩
        have hq2 : q = a + k := by rw [hq, HN.out, HM.out]
        obtain ⟨ad0, x0, hA0, -, -, -⟩ := HR.out.at_ (k := 0) (by omega)
        subst hA0
        have x1 : (n : Int) - ((m - k : Nat) : Int) = (q : Int) := by omega
        have x1' : IntKind.i64.wrap (q : Int) = (q : Int) := by rw [IntKind.wrap_i64]; omega
        have s1 := fun w' => slice_h ad0 n c q (by omega) w'
        have s2 := fun w' => slice_l (some ad0) n c q (by omega) w'
        have r1 : RB w1 (some ad0) q (nu (u.take q)) := by rw [← nu_take]; exact (HR.out.below HB1.out).take (by omega)
        have r2 : RB w1 (cut (some ad0) c q) (n - q) (nu (u.drop q)) := by rw [← nu_drop]; exact (HR.out.below HB1.out).drop (by omega) hc
        have HQ := Lib.hid hq
        have hqn : q ≤ n := by omega
        have R1 := Lib.hid r1
        have R2 := Lib.hid r2
        clear hk he hq hq2 HM HR2 HRB r1 r2
        go_wp2_with (go_at_call 12; refine hE.mono ?_; rintro e w2 ⟨rfl, rfl⟩)
        go_region_held (fun _ => True) (trivial)
          ((first
            | (go_at_call 13; refine (bclone (some ad0) q c (nu (u.take q)) w2.drew R1.out (by omega)).mono ?_; rintro e w3 ⟨A3, c3, rfl, hown3, hB3⟩; have HB3 := Lib.hid (below_drew hB3); have HO3 := Lib.hid hown3; clear hB3 hown3)
            | (go_at_call 13; refine (bclone (cut (some ad0) c q) (n - q) (c - q) (nu (u.drop q)) w3 (R2.out.below HB3.out) (by omega)).mono ?_; rintro e w4 ⟨A4, c4, rfl, hown4, hB4⟩)))
        go_wp2
        go_ret2
        have HLL := HL.out
        refine ⟨A3, c3, A4, c4, by rw [← HQ.out, HLL]; rfl, ?_, by rw [← HQ.out]; exact HO3.out.le, ?_, HB1.out.trans ((HB3.out.trans (hB4.mono HB3.out.size)).mono hwq1)⟩
        · rw [← HQ.out]; exact HO3.out.read.below hB4
        · rw [← HQ.out, HLL]; exact hown4.read
    · have hm0 : m = 0 := by omega
      have hE : Hid (hn u = n) := by show _ = _; rw [HN.out, hn_nil (by rw [HVL.out]; exact hm0)]; omega
      have hr := HR.out.below HB.out
      have HRR := Lib.hid hr
      clear hr
      go_wp2_with fail
      refine (bclone A n c (nu u) wr HRR.out (by omega)).mono ?_
      rintro e w3 ⟨A3, c3, rfl, hown3, hB3⟩
      go_wp2
      go_ret2
      have HLL := HL.out
      have e0 : n - n = 0 := Nat.sub_self n
      refine ⟨A3, c3, none, 0, by rw [hE.out, HLL, e0]; rfl, ?_, by rw [hE.out]; exact hown3.le, ?_, HB.out.trans (hB3.mono hwq)⟩
      · rw [hE.out, ← HLL, List.take_length, HLL]; exact hown3.read
      · rw [hE.out, ← HLL, List.drop_length, Nat.sub_self]; exact RB.nil _ _
end Go.Proofs.YtigkjjbdbficnaaDoor
