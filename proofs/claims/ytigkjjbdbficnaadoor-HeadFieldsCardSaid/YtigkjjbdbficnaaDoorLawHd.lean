/-
  The walks of the laws HeadCuts and HeadFields.
-/
import Derived.Test.YtigkjjbdbficnaaDoorRh
import Derived.Test.YtigkjjbdbficnaaDoorFe
namespace Go.Proofs.YtigkjjbdbficnaaDoor
open Go.RowKit

/-! ### What a program that does nothing answers wrongly -/
def u0 : U := [65, 58, 32, 98, 13, 10, 32, 99, 13, 10, 13, 10]
theorem heads_u0 : heads u0 = [([65], [98, 32, 99])] := by
  unfold heads
  rw [ph_more (u := u0) (by decide) (by decide)]
  rw [show u0.drop (ln u0) = [32, 99, 13, 10, 13, 10] by decide]
  rw [show step (bareU u0) ([], false) = ([([65], [32, 98])], true) by decide]
  rw [ph_more (u := [32, 99, 13, 10, 13, 10]) (by decide) (by decide)]
  rw [show ([32, 99, 13, 10, 13, 10] : U).drop (ln [32, 99, 13, 10, 13, 10]) = [13, 10] by decide]
  rw [ph_end (u := [13, 10]) (by decide)]
  decide
theorem pick_u0 : pick (heads u0) ⟨#[97]⟩ = ([98, 32, 99], true) := by
  rw [heads_u0]
  refine pick_here (i := 0) (f := ([65], [98, 32, 99])) (by simp) rfl ?_
  exact alikeB_t (by decide)

def cs0 : Array Value := #[.int .u8 65, .int .u8 58, .int .u8 32, .int .u8 98, .int .u8 13, .int .u8 10, .int .u8 32, .int .u8 99, .int .u8 13, .int .u8 10, .int .u8 13, .int .u8 10]
theorem rb_u0 (w : World) : RB (w.alloc (.cells cs0 5 (12, 13))) (some ⟨w.heap.size, 0, none⟩) 12 (nu u0) := RB.new w cs0 5 (12, 13) (nu u0) rfl (nu_lt u0)

set_option maxHeartbeats 1000000 in
theorem awake14 (w : World) : Calls Tryd.prog 5 #[] w fun e w' => e = .returned (.bool true) ∧ Below w.heap.size w w' := by
  have hB : Below w.heap.size w (w.alloc (.cells cs0 5 (12, 13))) := (Below.refl _ _).alloc (Nat.le_refl _) _
  have hF := field_any (some ⟨w.heap.size, 0, none⟩) 12 12 u0 ⟨#[97]⟩ _ (rb_u0 w) (by omega) (by omega) (by decide)
  rw [pick_u0] at hF
  change Calls _ _ _ _ (fun e w' => e = .returned (.tuple #[.string ⟨#[98, 32, 99]⟩, .bool true]) ∧ Below _ _ w') at hF
  have HF := Lib.hid hF
  have HB := Lib.hid hB
  clear hF hB
  have kc := fun (w : World) (C : Array Value) (n c : Nat) => Lib.run_convert_bytes_const (P := Tryd.prog) w 22 5 C n c Tryd.underlying22 Tryd.underlying5
  go_enter Tryd.func5, Tryd.ntmps5
  go_wp2_with fail
  refine HF.out.mono ?_
  rintro e w1 ⟨rfl, hB1⟩
  have HB1 := Lib.hid (HB.out.trans (hB1.mono HB.out.size))
  clear hB1
  go_wp2
  go_ret
  exact ⟨rfl, HB1.out⟩
theorem slice_h0 (A : Option Addr) (n c k : Nat) (hk : k ≤ c) (w : World) :
    (Instr.slice 22 (.slice A n c) none (some (.int .i64 (k : Int))) none).run Tryd.prog w = .ok (.slice (cut A c 0) k c) w := by
  obtain ⟨i, hi, -, hz1, -⟩ := info_parts Tryd.info5
  have := run_slice_h (P := Tryd.prog) (w := w) 22 A n c (by kernel_rfl) .i64 k (by omega) (by omega)
  rw [this]
  simp [sizeOf, typeInfo, hi, hz1, sliced, cut, Program.elem]
theorem RB.head {w : World} {A : Option Addr} {n c : Nat} {l : List Nat} (h : RB w A n l) {k : Nat} (hk : k ≤ n) (hc : n ≤ c) : RB w (cut A c 0) k (l.take k) := by
  have := (h.drop (k := 0) (Nat.zero_le _) hc).take (k := k) (by omega)
  rw [List.drop_zero] at this
  exact this

attribute [local irreducible] Calls in
set_option maxHeartbeats 1000000 in
theorem headCuts_walk (a0 : Option Addr) (len0 cap0 : Nat) (z0 : List Int) (w : World) (w0 : IsRow .u8 w a0 len0 cap0 z0) (hc : len0 ≤ cap0) :
    Calls Tryd.prog 3 #[.slice a0 len0 cap0] w fun e w' => e = .returned (.bool true) ∧ Below w.heap.size w w' := by
  have hr0 := RB.of_row w0
  obtain ⟨u, hu⟩ : ∃ u, u = un (nats (z0.take len0)) := ⟨_, rfl⟩
  have hr : RB w a0 len0 (nu u) := by rw [hu, nu_un hr0.2.1]; exact hr0
  have hl : u.length = len0 := by have := hr.1; rw [nu_length] at this; exact this
  have HR := Lib.hid hr
  have HL := Lib.hid hl
  clear hr0 hu hr hl w0
  by_cases hbig : 10000 < len0
  · go_enter Tryd.func3, Tryd.ntmps3
    go_wp2_with fail
    refine (awake14 _).mono ?_
    rintro e w1 ⟨rfl, hb1⟩
    go_wp2_with fail
    refine (awake14 _).mono ?_
    rintro e w2 ⟨rfl, hb2⟩
    go_wp2
    go_ret
    exact ⟨rfl, hb1.trans (hb2.mono hb1.size)⟩
  · have hh := hn_le' u
    obtain ⟨q, hq⟩ : ∃ q, q = hn u := ⟨_, rfl⟩
    obtain ⟨S1, hS1⟩ : ∃ s, s = st (u.take q) := ⟨_, rfl⟩
    obtain ⟨S2, hS2⟩ : ∃ s, s = st (u.drop q) := ⟨_, rfl⟩
    have HQ := Lib.hid hq
    have HS1 := Lib.hid hS1
    have HS2 := Lib.hid hS2
    have hql : q ≤ len0 := by rw [hq, ← HL.out]; exact hh
    clear hh hq hS1 hS2
    go_enter Tryd.func3, Tryd.ntmps3
    go_wp2_with fail
    refine (awake14 _).mono ?_
    rintro e w1 ⟨rfl, hb1⟩
    have HB1 := Lib.hid hb1
    clear hb1
    go_wp2_with fail
    refine (cut_any a0 len0 cap0 u w1 (HR.out.below HB1.out) hc (by omega)).mono ?_
    rintro e w2 ⟨A1, c1, A2, c2, rfl, h1, -, h2, hb2⟩
    have HB2 := Lib.hid (HB1.out.trans (hb2.mono HB1.out.size))
    rw [← HQ.out] at h1 h2 ⊢
    rw [HL.out] at h2 ⊢
    have H1 := Lib.hid h1
    have H2 := Lib.hid h2
    clear hb2 h1 h2
    go_wp2_with fail
    refine (head_any a0 len0 cap0 u w2 (HR.out.below HB2.out) hc (by omega)).mono ?_
    rintro e w3 ⟨L, k, cL, rfl, -, hb3⟩
    have HB3 := Lib.hid (HB2.out.trans (hb3.mono HB2.out.size))
    have HR3 := Lib.hid (HR.out.below HB3.out)
    have H13 := Lib.hid (H1.out.below hb3)
    have H23 := Lib.hid (H2.out.below hb3)
    rw [← HQ.out]
    have k1 : ∀ p, (convert 22 9 (.slice A1 q c1)).run Tryd.prog (w3.drewN p) = .ok (.string S1) (w3.drewN p) := fun p => by
      rw [HS1.out]; exact conv_u (w := w3.drewN p) (show RB (w3.drewN p) A1 q (nu (u.take q)) from H13.out) c1
    have k2 : ∀ p, (convert 22 9 (.slice A2 (len0 - q) c2)).run Tryd.prog (w3.drewN p) = .ok (.string S2) (w3.drewN p) := fun p => by
      rw [HS2.out]; exact conv_u (w := w3.drewN p) (show RB (w3.drewN p) A2 (len0 - q) (nu (u.drop q)) from H23.out) c2
    have k3 : ∀ p, (convert 22 9 (.slice (cut a0 cap0 0) q cap0)).run Tryd.prog (w3.drewN p) = .ok (.string S1) (w3.drewN p) := fun p => by
      rw [HS1.out]; exact conv_u (w := w3.drewN p) (show RB (w3.drewN p) (cut a0 cap0 0) q (nu (u.take q)) from by rw [← nu_take]; exact HR3.out.head hql hc) cap0
    have k4 : ∀ p, (convert 22 9 (.slice (cut a0 cap0 q) (len0 - q) (cap0 - q))).run Tryd.prog (w3.drewN p) = .ok (.string S2) (w3.drewN p) := fun p => by
      rw [HS2.out]; exact conv_u (w := w3.drewN p) (show RB (w3.drewN p) (cut a0 cap0 q) (len0 - q) (nu (u.drop q)) from by rw [← nu_drop]; exact HR3.out.drop hql hc) (cap0 - q)
    have s1 := fun W => slice_h0 a0 len0 cap0 q (by omega) W
    have s2 := fun W => slice_l a0 len0 cap0 q hql W
    clear hb3
    go_wp2_with fail
    go_quiet (fail)
    go_wp2
    go_ret
    exact ⟨by simp, HB3.out.trans (below_dn _ _ |>.mono HB3.out.size)⟩
end Go.Proofs.YtigkjjbdbficnaaDoor
