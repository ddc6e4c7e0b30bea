/-
  The document's Scan.
-/
import Derived.Test.YtinndlofnpkfhaaRHd
import Derived.Test.YtinndlofnpkfhaaScan
import Derived.Test.YtinndlofnpkfhaaRDig
namespace Go.Proofs.Ytinndlofnpkfhaa
open Go.RowKit

attribute [local irreducible] Calls in
set_option maxRecDepth 8000 in
set_option maxHeartbeats 2000000 in
theorem rscan_any (A : Option Addr) (n c : Nat) (b : List Nat) (w : World) (hb : RB w A n b) (hc : n ≤ c) (hn : n ≤ 100000) :
    Calls Try.prog 46 #[.slice A n c] w (Scanned w 71 (scan b 0)) := by
  have HR := Lib.hid hb
  have HLEN := Lib.hid hb.1
  obtain ⟨z, hz⟩ : ∃ z, z = List.replicate 32 0 := ⟨_, rfl⟩
  have hzl : z.length = 32 := by rw [hz]; simp
  have HZ := Lib.hid hz
  clear hb hz
  go_enter Try.func46, Try.ntmps46
  go_wp2
  go_loopw [4, 5, 6] (fun v4 v5 v6 wr => ∃ (a t : Nat) (A' : Option Addr) (k c' : Nat) (es : List Entry), v4 = .slice A' k c' ∧ v5 = .int .i64 (a : Int) ∧ v6 = .int .i64 (t : Int) ∧ t ≤ a ∧ a ≤ n ∧ k ≤ t ∧ Recs wr w.heap.size 71 A' k c' es ∧ (scan b 0).1 = es.map Entry.rec_ ++ (scan b t).1 ∧ (scan b 0).2 = (scan b t).2 ∧ find b t = find b a ∧ Below w.heap.size w wr) (fun _ v5 _ _ => n - (intOf v5).toNat)
  case atStart => exact ⟨0, 0, none, 0, 0, [], rfl, rfl, rfl, Nat.le_refl _, Nat.zero_le _, Nat.le_refl _, Recs.nil _ _ _, by simp, rfl, rfl, Below.refl _ _⟩
  case round =>
    obtain ⟨a, t, A', k, c', es, rfl, rfl, rfl, hta, ha, hkt, hrec, hs1, hs2, hf, hB⟩ := hrel
    have HREC := Lib.hid hrec
    have HS1 := Lib.hid hs1
    have HS2 := Lib.hid hs2
    have HF := Lib.hid hf
    have HB := Lib.hid hB
    have hwq := hB.size
    clear hrec hs1 hs2 hf hB
    by_cases han : a < n
    · go_wp2_with fail
      refine (rhead_any A n c b a wr (HR.out.below HB.out) hc (by omega) ha).mono ?_
      rintro e w1 ⟨x, y, f, rfl, h1, h2, hB1⟩
      have HB1 := Lib.hid (HB.out.trans (hB1.mono hwq))
      have HREC1 := Lib.hid (HREC.out.below hB1)
      have hwq1 := HB1.out.size
      clear hB1 HREC
      cases hh : hd (b.drop a) with
      | none =>
        obtain rfl := h2 hh
        have HFN := Lib.hid (find_next hh)
        clear h1 h2 hh
        go_wp2
        go_roundw
        case rel => exact ⟨a + 1, t, A', k, c', es, rfl, by go_num, rfl, by omega, by omega, hkt, HREC1.out, HS1.out, HS2.out, by rw [HF.out, HFN.out], HB1.out⟩
        case measure => simp [intOf]; omega
      | some r =>
        obtain ⟨kd, nn⟩ := r
        obtain ⟨rfl, rfl, rfl⟩ := h1 kd nn hh
        have h44 := (hd_cub hh).1
        rw [List.length_drop, HLEN.out] at h44
        have hkd := hd_le hh
        have hst : scan b t = scan b a := scan_same (by rw [HF.out, find_here hh])
        have HST := Lib.hid hst
        have HSC := Lib.hid (scan_here hh)
        clear h1 h2 hh hst
        by_cases hfit : a + 44 + nn ≤ n
        · have d10 : decide ((n : Int) < (a : Int) + 44 + (nn : Int)) = false := by simp; omega
          rw [if_neg (by rw [HLEN.out]; omega)] at HSC
          obtain ⟨p44, e44⟩ : ∃ p, p = a + 44 := ⟨_, rfl⟩
          obtain ⟨p12, e12⟩ : ∃ p, p = a + 12 := ⟨_, rfl⟩
          obtain ⟨pe, epe⟩ : ∃ p, p = a + 44 + nn := ⟨_, rfl⟩
          have d10' : decide ((n : Int) < (pe : Int)) = false := by simp; omega
          have x1 : (a : Int) + 44 = (p44 : Int) := by omega
          have x1' : IntKind.i64.wrap (p44 : Int) = (p44 : Int) := by rw [IntKind.wrap_i64]; omega
          have x2 : (a : Int) + 12 = (p12 : Int) := by omega
          have x2' : IntKind.i64.wrap (p12 : Int) = (p12 : Int) := by rw [IntKind.wrap_i64]; omega
          have x3 : (p44 : Int) + (nn : Int) = (pe : Int) := by omega
          have sp : ∀ w', (Instr.slice 22 (.slice A n c) (some (.int .i64 (p44 : Int))) (some (.int .i64 (pe : Int))) none).run Try.prog w' = .ok (.slice (cut A c p44) nn (c - p44)) w' := by
            have := slice_lh A n c p44 pe (by omega) (by omega)
            rwa [show pe - p44 = nn by omega] at this
          have sd : ∀ w', (Instr.slice 22 (.slice A n c) (some (.int .i64 (p12 : Int))) (some (.int .i64 (p44 : Int))) none).run Try.prog w' = .ok (.slice (cut A c p12) 32 (c - p12)) w' := by
            have := slice_lh A n c p12 p44 (by omega) (by omega)
            rwa [show p44 - p12 = 32 by omega] at this
          have hrp := (HR.out.below HB1.out).mid (lo := p44) (hi := pe) (cap := c) (by omega) (by omega) hc
          have hrd := (HR.out.below HB1.out).mid (lo := p12) (hi := p44) (cap := c) (by omega) (by omega) hc
          rw [show pe - p44 = nn by omega] at hrp
          rw [show p44 - p12 = 32 by omega] at hrd
          obtain ⟨pay, hpay⟩ : ∃ p, p = (b.drop (a + 44)).take nn := ⟨_, rfl⟩
          obtain ⟨dg, hdg⟩ : ∃ p, p = (b.drop (a + 12)).take 32 := ⟨_, rfl⟩
          rw [e44, ← hpay, ← e44] at hrp
          rw [e12, ← hdg, ← e12] at hrd
          have hrecAt : Hid (recAt b a kd nn = if Sha.digest pay = dg then [(a, kd, pay)] else []) := by show _ = _; rw [hpay, hdg]; rfl
          rw [← epe] at HSC
          have hpen : pe ≤ n := by omega
          have hape : a < pe := by omega
          have hp44 : p44 ≤ n := by omega
          have hnn := hkd.2.2
          have HRP := Lib.hid hrp
          have HRD := Lib.hid hrd
          clear hpay hdg hrp hrd e44 e12 epe hfit h44 hkd
          go_wp2_with fail
          refine (rdigest_any (cut A c p44) nn (c - p44) pay w1 HRP.out (by omega)).mono ?_
          rintro e w2 ⟨rfl, hb2⟩
          obtain ⟨D, hD⟩ : ∃ D, D = Sha.digest pay := ⟨_, rfl⟩
          have hDl : D.length = 32 := by rw [hD]; exact Sha.digest_len pay
          have hDlt : ∀ x ∈ D, x < 256 := by rw [hD]; exact Sha.digest_lt pay
          rw [← hD]
          obtain ⟨w8, hw8, hs8, hB8, hA8⟩ := lay w2 .u8 58 z
          obtain ⟨w9, hw9, hs9, hB9, hA9, ho9⟩ := putrow D hA8
          have hrD : RB w9 (some ⟨w2.heap.size, 0, none⟩) 32 D := by have := hA9.rb hDlt; rwa [hDl] at this
          have hB29 : Below w1.heap.size w1 w9 := hb2.trans ((hB8.trans hB9).mono hb2.size)
          have HB9 := Lib.hid (HB1.out.trans (hB29.mono hwq1))
          have HRD9 := Lib.hid (HRD.out.below hB29)
          have HRP9 := Lib.hid (HRP.out.below hB29)
          have HREC9 := Lib.hid (HREC1.out.below hB29)
          have HRDD := Lib.hid hrD
          have HW8 := Lib.hid hw8
          have HW9 := Lib.hid hw9
          have HD := Lib.hid hD
          have HA8 := Lib.hid hA8
          have hwq9 := HB9.out.size
          have e1 : Hid ((Try.prog.info? 58).map (·.size) = some z.length) := by show _ = _; rw [hzl]; exact s58
          have e2 : Hid (z.length = D.length) := by show _ = _; rw [hzl, hDl]
          clear hb2 hD hDl hDlt hw8 hs8 hB8 hA8 hw9 hs9 hB9 hA9 ho9 hrD hB29 HRP HRD HREC1
          go_wp2_with (first
            | (refine wpList_alloc_ar rfl 58 rfl .u8 32 z58 ?_; rw [← HZ.out, ← HW8.out])
            | (refine wpList_store_ar rfl 58 _ _ rfl rfl w2.heap.size rfl .u8 z D rfl HA8.out e1.out e2.out ?_; rw [← HW9.out]))
          clear HW8 HW9 HA8 e1 e2
          have kc1 : ∀ q : Nat, (convert 22 9 (.slice (some ⟨w2.heap.size, 0, none⟩) 32 32)).run Try.prog (w9.drewN q) = .ok (.string (str D)) (w9.drewN q) := fun q => conv_rb (w := w9.drewN q) HRDD.out 32
          have kc2 : ∀ q : Nat, (convert 22 9 (.slice (cut A c p12) 32 (c - p12))).run Try.prog (w9.drewN q) = .ok (.string (str dg)) (w9.drewN q) := fun q => conv_rb (w := w9.drewN q) HRD9.out (c - p12)
          by_cases heq : D = dg
          · have hse : ((str D).toList == (str dg).toList) = true := by rw [heq]; simp
            have HEQ := Lib.hid heq
            clear heq
            go_wp2_with fail
            go_quiet (fail)
            have HB10 := Lib.hid (Below.dn HB9.out nq)
            have HRP10 : Hid (RB (w9.drewN nq) (cut A c p44) nn pay) := HRP9.out
            have HREC10 : Hid (Recs (w9.drewN nq) w.heap.size 71 A' k c' es) := HREC9.out
            clear kc1 kc2
            generalize w9.drewN nq = w10 at *
            have hwq10 := HB10.out.size
            have hownc : Own (w10.alloc (.cells #[] 5)) w10.heap.size (some ⟨w10.heap.size, 0, none⟩) 0 0 [] := Own.made w10 #[] 0 (Nat.le_refl _) (by unfold maxLen; omega) rfl
            have hB11 : Below w10.heap.size w10 (w10.alloc (.cells #[] 5)) := (Below.refl _ _).alloc (Nat.le_refl _) _
            have hr11 := HRP10.out.below hB11
            clear HB9 HRP9 HREC9 HRDD HRD9
            go_wp2_with (first
              | (refine Great.wpList_buildTo rfl 71 _ rfl (some 62) rfl _ (built71 _ _ _ _ _) ?_)
              | (at_builtin; refine wpList_append_rb rfl (.tmp 59) (.tmp 60) rfl rfl rfl hownc hr11 (by omega) hB11.size ?_; intro Ac cc w11 hown ho11 _; simp only [Nat.zero_add, List.nil_append] at hown; rw [Nat.zero_add]
                 have hb11 := hB11.trans (ho11.below hB11.size (fun i hi e => by simp [blk] at e; omega))
                 have HB11 := Lib.hid (HB10.out.trans (hb11.mono hwq10))
                 have hrec11 := HREC10.out.below hb11
                 have hrc := hown.read
                 have happ : ∀ q, blk Ac = some q → blk A' ≠ some q := fun q hq hq2 => by have := (hown.lt q hq).1; have := (HREC10.out.lt q hq2).2; omega
                 have hB12 : Below w11.heap.size w11 (w11.alloc (.cells #[.int .i64 (a : Int), .int .i64 (kd : Int), .slice Ac nn cc] 71)) := (Below.refl _ _).alloc (Nat.le_refl _) _
                 have hrec12 := hrec11.below hB12
                 have hpay12 : Pays (w11.alloc (.cells #[.int .i64 (a : Int), .int .i64 (kd : Int), .slice Ac nn cc] 71)) A' ⟨a, kd, Ac, nn, cc, pay⟩ := ⟨hrc.below hB12, fun _ q hq => happ q hq⟩
                 have hcells : ∀ (j : Nat) u, (Entry.cells ⟨a, kd, Ac, nn, cc, pay⟩)[j]? = some u → (w11.alloc (.cells #[.int .i64 (a : Int), .int .i64 (kd : Int), .slice Ac nn cc] 71)).cell? ⟨w11.heap.size, j, none⟩ = some u := fun j u hu => by
                   rw [cell_of_row _ _ j _ 71 (0, 0) (heap_alloc_new w11 _)]
                   simpa [Entry.cells] using hu
                 have HB12 := Lib.hid (HB11.out.trans (hB12.mono HB11.out.size))
                 have hwq12 := HB12.out.size
                 clear hown hb11 ho11 hrec11 hrc happ hB12)
              | (at_builtin; refine wp_append_rec rfl (.tmp 56) (.tmp 63) 65 71 40 und65 inf71 (by decide) rfl rfl rfl hrec12 hcells hpay12 (by omega) hwq12 ?_; intro A13 c13 w13 hrec13 ho13 _
                 have hb13 := HB12.out.trans (ho13.below hwq12 (fun i hi e => by have := (hrec12.lt i e).1; omega))
                 have HREC13 := Lib.hid hrec13
                 have HB13 := Lib.hid hb13
                 clear hrec12 hcells hpay12 ho13 hb13 hrec13 HB12 hwq12))
            have hra1 : recAt b a kd nn = [(a, kd, pay)] := by rw [hrecAt.out, if_pos (by rw [← HD.out, HEQ.out])]
            have HRA1 := Lib.hid hra1
            clear hra1
            go_roundw
            case rel =>
              refine ⟨pe, pe, A13, k + 1, c13, es ++ [⟨a, kd, Ac, nn, cc, pay⟩], rfl, rfl, rfl, Nat.le_refl _, hpen, by omega, HREC13.out, ?_, ?_, rfl, HB13.out⟩
              · rw [HS1.out, HST.out, HSC.out, HRA1.out]; simp [Entry.rec_]
              · rw [HS2.out, HST.out, HSC.out]
            case measure => simp [intOf]; omega
          · have hse : ((str D).toList == (str dg).toList) = false := str_ne HRDD.out.2.1 HRD9.out.2.1 heq
            have HEQ := Lib.hid heq
            clear heq
            go_wp2_with fail
            go_quiet (fail)
            have HB10 := Lib.hid (Below.dn HB9.out nq)
            have HREC10 : Hid (Recs (w9.drewN nq) w.heap.size 71 A' k c' es) := HREC9.out
            clear kc1 kc2
            generalize w9.drewN nq = w10 at *
            have hra1 : recAt b a kd nn = [] := by rw [hrecAt.out, if_neg (by rw [← HD.out]; exact HEQ.out)]
            have HRA1 := Lib.hid hra1
            clear HB9 HRP9 HREC9 HRDD HRD9 hra1
            go_wp2_with fail
            go_roundw
            case rel =>
              refine ⟨pe, pe, A', k, c', es, rfl, rfl, rfl, Nat.le_refl _, hpen, by omega, HREC10.out, ?_, ?_, rfl, HB10.out⟩
              · rw [HS1.out, HST.out, HSC.out, HRA1.out]; simp
              · rw [HS2.out, HST.out, HSC.out]
            case measure => simp [intOf]; omega
        · have d10 : decide ((n : Int) < (a : Int) + 44 + (nn : Int)) = true := by simp; omega
          rw [if_pos (by rw [HLEN.out]; omega)] at HSC
          have hnn := hkd.2.2
          clear hfit
          go_wp2
          go_ret2
          exact ⟨A', k, c', es, by rw [HS2.out, HST.out, HSC.out]; rfl, HREC1.out, by rw [HS1.out, HST.out, HSC.out]; simp, HB1.out⟩
    · have hsc := scan_none (b := b) (i := t) (by rw [HF.out]; exact find_end (by rw [HLEN.out]; omega))
      rw [hsc] at HS1 HS2
      clear hsc
      go_wp2
      go_ret2
      exact ⟨A', k, c', es, by rw [HS2.out]; rfl, HREC.out, by rw [HS1.out]; simp, HB.out⟩
end Go.Proofs.Ytinndlofnpkfhaa
