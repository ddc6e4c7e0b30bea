/-
  Package frame: Scan.
-/
import Derived.Test.YtinndlofnpkfhaaNxt
import Derived.Test.YtinndlofnpkfhaaRcs
import Derived.Test.YtinndlofnpkfhaaFrm
import Derived.BigQuiet
import Derived.Deep.QuietTactic
namespace Go.Proofs.Ytinndlofnpkfhaa
open Go.RowKit

/-- what a Scan hands back -/
def Scanned (w : World) (T : TypeId) (r : List RecP × Nat) (e : Ending) (w' : World) : Prop :=
  ∃ A m c es, e = .returned (.tuple #[.slice A m c, .int .i64 (r.2 : Int)]) ∧ Recs w' w.heap.size T A m c es ∧ es.map Entry.rec_ = r.1 ∧ Below w.heap.size w w'

attribute [local irreducible] Calls in
set_option maxRecDepth 8000 in
set_option maxHeartbeats 2000000 in
theorem scan_any (A : Option Addr) (n c : Nat) (b : List Nat) (m : Int) (w : World) (hb : RB w A n b) (hc : n ≤ c) (hn : n ≤ 100000) (hm : w.cell? ⟨0, 0, none⟩ = some (.int .i64 m)) :
    Calls Try.prog 45 #[.slice A n c] w (Scanned w 87 (scan b 0)) := by
  have HR := Lib.hid hb
  have HM := Lib.hid hm
  have HLEN := Lib.hid hb.1
  obtain ⟨z, hz⟩ : ∃ z, z = List.replicate 32 0 := ⟨_, rfl⟩
  have hzl : z.length = 32 := by rw [hz]; simp
  have HZ := Lib.hid hz
  clear hb hm hz
  go_enter Try.func45, Try.ntmps45
  go_wp2
  go_loopw [4, 5] (fun v4 v5 wr => ∃ (a : Nat) (A' : Option Addr) (k c' : Nat) (es : List Entry), v4 = .slice A' k c' ∧ v5 = .int .i64 (a : Int) ∧ a ≤ n ∧ k ≤ a ∧ Recs wr w.heap.size 87 A' k c' es ∧ (scan b 0).1 = es.map Entry.rec_ ++ (scan b a).1 ∧ (scan b 0).2 = (scan b a).2 ∧ Below w.heap.size w wr) (fun _ v5 _ => n - (intOf v5).toNat)
  case atStart => exact ⟨0, none, 0, 0, [], rfl, rfl, Nat.zero_le _, Nat.le_refl _, Recs.nil _ _ _, by simp, rfl, Below.refl _ _⟩
  case round =>
    obtain ⟨a, A', k, c', es, rfl, rfl, ha, hka, hrec, hs1, hs2, hB⟩ := hrel
    have HREC := Lib.hid hrec
    have HS1 := Lib.hid hs1
    have HS2 := Lib.hid hs2
    have HB := Lib.hid hB
    have hwq := hB.size
    have hra := (HR.out.below hB).drop (k := a) (cap := c) ha hc
    have HRA := Lib.hid hra
    clear hrec hs1 hs2 hB hra
    by_cases han : a < n
    · have sl : ∀ w', (Instr.slice 22 (.slice A n c) (some (.int .i64 (a : Int))) none none).run Try.prog w' = .ok (.slice (cut A c a) (n - a) (c - a)) w' := slice_l A n c a ha
      go_wp2_with fail
      refine (head_any (cut A c a) (n - a) (c - a) (b.drop a) wr HRA.out (by omega) (by omega)).mono ?_
      rintro e w1 ⟨x, y, f, rfl, h1, h2, hB1⟩
      have HB1 := Lib.hid (HB.out.trans (hB1.mono hwq))
      have HREC1 := Lib.hid (HREC.out.below hB1)
      have hwq1 := HB1.out.size
      clear hB1 HREC sl
      cases hh : hd (b.drop a) with
      | none =>
        obtain rfl := h2 hh
        have HHN := Lib.hid hh
        clear h1 h2 hh
        go_wp2_with fail
        refine (next_any A n c b a m w1 (HR.out.below HB1.out) hc (by omega) ha (cell_later HB1.out HM.out)).mono ?_
        rintro e w2 ⟨rfl, hB2⟩
        have HB2 := Lib.hid (HB1.out.trans (hB2.mono hwq1))
        have HREC2 := Lib.hid (HREC1.out.below hB2)
        clear hB2 HREC1
        cases hf : find b a with
        | none =>
          have hsc := scan_none hf
          rw [hsc] at HS1 HS2
          have HF : Hid (nextI (none : Option Nat) = -1) := rfl
          rw [HF.out]
          clear hf hsc HF
          go_wp2
          go_ret2
          exact ⟨A', k, c', es, by rw [HS2.out]; rfl, HREC2.out, by rw [HS1.out]; simp, HB2.out⟩
        | some j =>
          have hfs := find_spec hf
          have hja : a < j := by
            rcases Nat.lt_or_eq_of_le hfs.1 with h | h
            · exact h
            · exfalso
              obtain ⟨_, _, k', n', hk'⟩ := hfs
              rw [← h, HHN.out] at hk'
              cases hk'
          have hjn : j < n := by rw [← HLEN.out]; exact hfs.2.1
          have hsc := scan_same hf
          have HSC := Lib.hid hsc
          have HF : Hid (nextI (some j) = (j : Int)) := rfl
          rw [HF.out]
          clear hf hfs hsc HF
          go_wp2
          go_roundw
          case rel => exact ⟨j, A', k, c', es, rfl, rfl, by omega, by omega, HREC2.out, by rw [HS1.out, HSC.out], by rw [HS2.out, HSC.out], HB2.out⟩
          case measure => simp [intOf]; omega
      | some r =>
        obtain ⟨kd, nn⟩ := r
        obtain ⟨rfl, rfl, rfl⟩ := h1 kd nn hh
        have h44 := (hd_cub hh).1
        rw [List.length_drop, HLEN.out] at h44
        have hkd := hd_le hh
        have HSC := Lib.hid (scan_here hh)
        clear h1 h2 hh
        by_cases hfit : a + 44 + nn ≤ n
        · have d10 : decide ((n : Int) - (a : Int) - 44 < (nn : Int)) = false := by simp; omega
          rw [if_neg (by rw [HLEN.out]; omega)] at HSC
          obtain ⟨p44, e44⟩ : ∃ p, p = a + 44 := ⟨_, rfl⟩
          obtain ⟨p12, e12⟩ : ∃ p, p = a + 12 := ⟨_, rfl⟩
          obtain ⟨pe, epe⟩ : ∃ p, p = a + 44 + nn := ⟨_, rfl⟩
          obtain ⟨q, eq_⟩ : ∃ p, p = 44 + nn := ⟨_, rfl⟩
          have x1 : (a : Int) + 44 = (p44 : Int) := by omega
          have x1' : IntKind.i64.wrap (p44 : Int) = (p44 : Int) := by rw [IntKind.wrap_i64]; omega
          have x2 : (p44 : Int) - 32 = (p12 : Int) := by omega
          have x2' : IntKind.i64.wrap (p12 : Int) = (p12 : Int) := by rw [IntKind.wrap_i64]; omega
          have x3 : (p44 : Int) + (nn : Int) = (pe : Int) := by omega
          have x4 : (44 : Int) + (nn : Int) = (q : Int) := by omega
          have x5 : (a : Int) + (q : Int) = (pe : Int) := by omega
          have sp : ∀ w', (Instr.slice 22 (.slice A n c) (some (.int .i64 (p44 : Int))) (some (.int .i64 (pe : Int))) none).run Try.prog w' = .ok (.slice (cut A c p44) nn (c - p44)) w' := by
            have := slice_lh A n c p44 pe (by omega) (by omega)
            rwa [show pe - p44 = nn by omega] at this
          have sd : ∀ w', (Instr.slice 22 (.slice A n c) (some (.int .i64 (p12 : Int))) (some (.int .i64 (p44 : Int))) none).run Try.prog w' = .ok (.slice (cut A c p12) 32 (c - p12)) w' := by
            have := slice_lh A n c p12 p44 (by omega) (by omega)
            rwa [show p44 - p12 = 32 by omega] at this
          have hrp := (HR.out.below HB1.out).mid (lo := p44) (hi := pe) (cap := c) (by omega) (by omega) hc
          have hrd := (HR.out.below HB1.out).mid (lo := p12) (hi := p44) (cap := c) (by omega) (by omega) hc
          rw [show pe - p44 = nn by omega] at hrp
          rw [show p44 - p12 = 32 by omega] at hrd
          obtain ⟨pay, hpay⟩ : ∃ p, p = (b.drop (a + 44)).take nn := ⟨_, rfl⟩
          obtain ⟨dg, hdg⟩ : ∃ p, p = (b.drop (a + 12)).take 32 := ⟨_, rfl⟩
          rw [e44, ← hpay, ← e44] at hrp
          rw [e12, ← hdg, ← e12] at hrd
          have hrecAt : Hid (recAt b a kd nn = if Sha.digest pay = dg then [(a, kd, pay)] else []) := by show _ = _; rw [hpay, hdg]; rfl
          rw [← epe] at HSC
          have hpen : pe ≤ n := by omega
          have hape : a < pe := by omega
          have hp44 : p44 ≤ n := by omega
          have hnn := hkd.2.2
          have HRP := Lib.hid hrp
          have HRD := Lib.hid hrd
          clear hpay hdg hrp hrd e44 e12 epe eq_ hfit h44 hkd
          go_wp2_with fail
          refine (digest_any (cut A c p44) nn (c - p44) pay w1 HRP.out (by omega)).mono ?_
          rintro e w2 ⟨rfl, hb2⟩
          obtain ⟨D, hD⟩ : ∃ D, D = Sha.digest pay := ⟨_, rfl⟩
          have hDl : D.length = 32 := by rw [hD]; exact Sha.digest_len pay
          have hDlt : ∀ x ∈ D, x < 256 := by rw [hD]; exact Sha.digest_lt pay
          rw [← hD]
          obtain ⟨w8, hw8, hs8, hB8, hA8⟩ := lay w2 .u8 58 z
          obtain ⟨w9, hw9, hs9, hB9, hA9, ho9⟩ := putrow D hA8
          have hrD : RB w9 (some ⟨w2.heap.size, 0, none⟩) 32 D := by have := hA9.rb hDlt; rwa [hDl] at this
          have hB29 : Below w1.heap.size w1 w9 := hb2.trans ((hB8.trans hB9).mono hb2.size)
          have HB9 := Lib.hid (HB1.out.trans (hB29.mono hwq1))
          have HRD9 := Lib.hid (HRD.out.below hB29)
          have HRP9 := Lib.hid (HRP.out.below hB29)
          have HREC9 := Lib.hid (HREC1.out.below hB29)
          have HRDD := Lib.hid hrD
          have HW8 := Lib.hid hw8
          have HW9 := Lib.hid hw9
          have HD := Lib.hid hD
          have HA8 := Lib.hid hA8
          have hwq9 := HB9.out.size
          have e1 : Hid ((Try.prog.info? 58).map (·.size) = some z.length) := by show _ = _; rw [hzl]; exact s58
          have e2 : Hid (z.length = D.length) := by show _ = _; rw [hzl, hDl]
          clear hb2 hD hDl hDlt hw8 hs8 hB8 hA8 hw9 hs9 hB9 hA9 ho9 hrD hB29 HRP HRD HREC1
          go_wp2_with (first
            | (refine wpList_alloc_ar rfl 58 rfl .u8 32 z58 ?_; rw [← HZ.out, ← HW8.out])
            | (refine wpList_store_ar rfl 58 _ _ rfl rfl w2.heap.size rfl .u8 z D rfl HA8.out e1.out e2.out ?_; rw [← HW9.out]))
          clear HW8 HW9 HA8 e1 e2
          by_cases heq : D = dg
          · have hbeq : ∀ q : Nat, Calls Try.prog 52 #[.slice (some ⟨w2.heap.size, 0, none⟩) 32 32, .slice (cut A c p12) 32 (c - p12)] (w9.drewN q) fun e w' => e = .returned (.bool true) ∧ w' = w9.drewN q := fun q =>
              (bequal_t (some ⟨w2.heap.size, 0, none⟩) 32 32 (cut A c p12) 32 (c - p12) D (w9.drewN q) HRDD.out (by rw [heq]; exact HRD9.out)).mono fun _ _ ⟨h, k⟩ => ⟨h, k.symm⟩
            have HEQ := Lib.hid heq
            clear heq
            go_quiet ((go_at_call 52; exact Calls.quiet_of_same (hbeq _)))
            have HB10 := Lib.hid (Below.dn HB9.out nq)
            have HRP10 : Hid (RB (w9.drewN nq) (cut A c p44) nn pay) := HRP9.out
            have HREC10 : Hid (Recs (w9.drewN nq) w.heap.size 87 A' k c' es) := HREC9.out
            generalize w9.drewN nq = w10 at *
            have hwq10 := HB10.out.size
            clear HB9 HRP9 HREC9 HRDD HRD9 hbeq
            go_wp2_with fail
            refine (sclone (cut A c p44) nn (c - p44) pay w10 HRP10.out (by omega)).mono ?_
            rintro e w11 ⟨Ac, cc, rfl, hown, hb11⟩
            have HB11 := Lib.hid (HB10.out.trans (hb11.mono hwq10))
            have hrec11 := HREC10.out.below hb11
            have hrc := hown.read
            have happ : ∀ q, blk Ac = some q → blk A' ≠ some q := fun q hq hq2 => by have := (hown.lt q hq).1; have := (HREC10.out.lt q hq2).2; omega
            have hB12 : Below w11.heap.size w11 (w11.alloc (.cells #[.int .i64 (a : Int), .int .i64 (kd : Int), .slice Ac nn cc] 87)) := (Below.refl _ _).alloc (Nat.le_refl _) _
            have hrec12 := hrec11.below hB12
            have hpay12 : Pays (w11.alloc (.cells #[.int .i64 (a : Int), .int .i64 (kd : Int), .slice Ac nn cc] 87)) A' ⟨a, kd, Ac, nn, cc, pay⟩ := ⟨hrc.below hB12, fun _ q hq => happ q hq⟩
            have hcells : ∀ (j : Nat) u, (Entry.cells ⟨a, kd, Ac, nn, cc, pay⟩)[j]? = some u → (w11.alloc (.cells #[.int .i64 (a : Int), .int .i64 (kd : Int), .slice Ac nn cc] 87)).cell? ⟨w11.heap.size, j, none⟩ = some u := fun j u hu => by
              rw [cell_of_row _ _ j _ 87 (0, 0) (heap_alloc_new w11 _)]
              simpa [Entry.cells] using hu
            have HB12 := Lib.hid (HB11.out.trans (hB12.mono HB11.out.size))
            have hwq12 := HB12.out.size
            clear HB10 HRP10 HREC10 hown hb11 hrec11 hrc happ hB12
            go_wp2_with (first
              | (refine Great.wpList_buildTo rfl 87 _ rfl (some 67) rfl #[.int .i64 (a : Int), .int .i64 (kd : Int), .slice Ac nn cc] (built87 _ _ _ _ _) ?_)
              | (at_builtin; refine wp_append_rec rfl (.tmp 62) (.tmp 68) 62 87 40 und62 inf87 (by decide) rfl rfl rfl hrec12 hcells hpay12 (by omega) hwq12 ?_; intro A13 c13 w13 hrec13 ho13 _))
            have hb13 := HB12.out.trans (ho13.below hwq12 (fun i hi e => by have := (hrec12.lt i e).1; omega))
            have hra1 : recAt b a kd nn = [(a, kd, pay)] := by rw [hrecAt.out, if_pos (by rw [← HD.out, HEQ.out])]
            have HRA1 := Lib.hid hra1
            have HREC13 := Lib.hid hrec13
            have HB13 := Lib.hid hb13
            clear hrec12 hcells hpay12 ho13 hb13 hra1 hrec13 HB12 hwq12
            go_roundw
            case rel =>
              refine ⟨pe, A13, k + 1, c13, es ++ [⟨a, kd, Ac, nn, cc, pay⟩], rfl, rfl, hpen, by omega, HREC13.out, ?_, ?_, HB13.out⟩
              · rw [HS1.out, HSC.out, HRA1.out]; simp [Entry.rec_]
              · rw [HS2.out, HSC.out]
            case measure => simp [intOf]; omega
          · have hbeq : ∀ q : Nat, Calls Try.prog 52 #[.slice (some ⟨w2.heap.size, 0, none⟩) 32 32, .slice (cut A c p12) 32 (c - p12)] (w9.drewN q) fun e w' => e = .returned (.bool false) ∧ w' = w9.drewN q := fun q =>
              (bequal_f (some ⟨w2.heap.size, 0, none⟩) 32 32 (cut A c p12) 32 (c - p12) D dg (w9.drewN q) HRDD.out HRD9.out heq).mono fun _ _ ⟨h, k⟩ => ⟨h, k.symm⟩
            have HEQ := Lib.hid heq
            clear heq
            go_quiet ((go_at_call 52; exact Calls.quiet_of_same (hbeq _)))
            have HB10 := Lib.hid (Below.dn HB9.out nq)
            have HREC10 : Hid (Recs (w9.drewN nq) w.heap.size 87 A' k c' es) := HREC9.out
            generalize w9.drewN nq = w10 at *
            have hra1 : recAt b a kd nn = [] := by rw [hrecAt.out, if_neg (by rw [← HD.out]; exact HEQ.out)]
            have HRA1 := Lib.hid hra1
            clear HB9 HRP9 HREC9 HRDD HRD9 hbeq hra1
            go_wp2_with fail
            go_roundw
            case rel =>
              refine ⟨pe, A', k, c', es, rfl, rfl, hpen, by omega, HREC10.out, ?_, ?_, HB10.out⟩
              · rw [HS1.out, HSC.out, HRA1.out]; simp
              · rw [HS2.out, HSC.out]
            case measure => simp [intOf]; omega
        · have d10 : decide ((n : Int) - (a : Int) - 44 < (nn : Int)) = true := by simp; omega
          rw [if_pos (by rw [HLEN.out]; omega)] at HSC
          clear hfit
          go_wp2
          go_ret2
          exact ⟨A', k, c', es, by rw [HS2.out, HSC.out]; rfl, HREC1.out, by rw [HS1.out, HSC.out]; simp, HB1.out⟩
    · have hsc := scan_none (find_end (b := b) (i := a) (by rw [HLEN.out]; omega))
      rw [hsc] at HS1 HS2
      clear hsc
      go_wp2
      go_ret2
      exact ⟨A', k, c', es, by rw [HS2.out]; rfl, HREC.out, by rw [HS1.out]; simp, HB.out⟩
end Go.Proofs.Ytinndlofnpkfhaa
