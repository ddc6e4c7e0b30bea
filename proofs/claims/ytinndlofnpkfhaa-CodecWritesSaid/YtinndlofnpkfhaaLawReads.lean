/-
  The walk of the law CodecReads.
-/
import Derived.Test.YtinndlofnpkfhaaFew
import Derived.Test.YtinndlofnpkfhaaNil
import Derived.Test.YtinndlofnpkfhaaLawHeals
namespace Go.Proofs.Ytinndlofnpkfhaa
open Go.RowKit

theorem bad_got {i : InM} {n : Int} (h : i.ok n = false) : i.got n = [] := by unfold InM.got; rw [h]; rfl
theorem bad_rest {i : InM} {n : Int} (h : i.ok n = false) : i.rest n = ⟨[], true⟩ := by unfold InM.rest; rw [h]; rfl
theorem good_got {i : InM} {n : Int} (h : i.ok n = true) : i.got n = i.l.take n.toNat := by unfold InM.got; rw [h]; rfl
theorem good_rest {i : InM} {n : Int} (h : i.ok n = true) : i.rest n = ⟨i.l.drop n.toNat, false⟩ := by unfold InM.rest; rw [h]; rfl

attribute [local irreducible] Calls in
set_option maxRecDepth 8000 in
set_option maxHeartbeats 4000000 in
theorem codecReads_walk (a0 : Option Addr) (len0 cap0 : Nat) (z0 : List Int) (a1 : Option Addr) (len1 cap1 : Nat) (R : List Item) (w : World) (w0 : IsRow .u8 w a0 len0 cap0 z0) (w1 : Items w a1 len1 R) :
    Calls Try.prog 4 #[.slice a0 len0 cap0, .slice a1 len1 cap1] w fun e w' => e = .returned (.bool true) ∧ Below w.heap.size w w' := by
  have hr := RB.of_row w0
  have hle := IsRow.le_ w0
  obtain ⟨b, hb⟩ : ∃ l, l = nats (z0.take len0) := ⟨_, rfl⟩
  rw [← hb] at hr
  have H := Lib.hid hr
  have HR := Lib.hid w1
  clear hb w0 w1 hr
  have hlate : ∀ w1 : World, Below w.heap.size w w1 → True := fun _ _ => trivial
  go_enter Try.func4, Try.ntmps4
  go_wp2_with fail
  refine (awake03 _).mono ?_
  rintro e w1 ⟨rfl, hb1⟩
  go_wp2_with fail
  refine (few_any a1 len1 cap1 R w1 (HR.out.below hb1)).mono ?_
  rintro e w1' ⟨f, rfl, hfew, rfl⟩
  cases f with
  | false =>
    go_wp2_with fail
    refine (awake03 _).mono ?_
    rintro e w2 ⟨rfl, hb2⟩
    go_wp2
    go_ret
    exact ⟨rfl, hb1.trans (hb2.mono hb1.size)⟩
  | true =>
    have hl100 : len1 ≤ 100 := by rw [← HR.out.1]; exact (hfew rfl).1
    clear hfew
    by_cases hn : 10000 < len0
    · have d0 : decide (10000 < (len0 : Int)) = true := by simp; omega
      go_wp2_with fail
      refine (awake03 _).mono ?_
      rintro e w2 ⟨rfl, hb2⟩
      go_wp2
      go_ret
      exact ⟨rfl, hb1.trans (hb2.mono hb1.size)⟩
    · have d0 : decide (10000 < (len0 : Int)) = false := by simp; omega
      go_wp2_with fail
      refine (newIn a0 len0 cap0 b w1' (H.out.below hb1) (by omega)).mono ?_
      rintro e w2 ⟨g, rfl, hg, hI, hb2⟩
      have HB1 := Lib.hid (hb1.trans (hb2.mono hb1.size))
      have hgw : w.heap.size ≤ g := Nat.le_trans hb1.size hg
      have HI1 := Lib.hid hI
      have HLEN := Lib.hid H.out.1
      clear hb1 hb2 hI hg hlate
      go_wp2_with fail
      go_loopw [29, 6, 7] (fun v v6 v7 wr => ∃ (j a : Nat) (bad : Bool), v = .int .i64 (j : Int) ∧ v6 = .int .i64 (a : Int) ∧ v7 = .bool bad ∧ j ≤ len1 ∧ a ≤ len0 ∧ (bad = true → a = len0) ∧ InS wr g ⟨b.drop a, bad⟩ ∧ Below w.heap.size w wr) (fun v _ _ _ => len1 - (intOf v).toNat)
      case atStart => exact ⟨0, 0, false, rfl, rfl, rfl, Nat.zero_le _, Nat.zero_le _, (fun h => by cases h), HI1.out, HB1.out⟩
      case round =>
        clear HI1
        obtain ⟨j, a, bad, rfl, rfl, rfl, hj, ha, hbad, hI, hB⟩ := hrel
        have HI := Lib.hid hI
        have HB := Lib.hid hB
        clear hI hB
        by_cases hjl : j < len1
        · have hjl' : (j : Int) < (len1 : Int) := by omega
          have hj : j + 1 ≤ len1 := hjl
          have hitems := HR.out.below HB.out
          obtain ⟨ad, x, rfl, hx, c0, c1, c2, c3, ⟨hwk, hwv, hws⟩, -, -, -⟩ := hitems.at_ hjl
          have bk := bounds_u8 hwk
          have bs := bounds_i64 hws
          obtain ⟨kd, vv, sz, xA, xn, xc, xp⟩ := x
          simp only at c0 c1 c2 c3 bk bs
          have hlb : (b.drop a).length = len0 - a := by rw [List.length_drop, HLEN.out]
          have hlen5 : (InM.mk (b.drop a) bad).l.length ≤ 500000 := by show (b.drop a).length ≤ _; omega
          have hdoneb : InM.done ⟨[], true⟩ = false := rfl
          have hdropend : b.drop len0 = [] := List.drop_eq_nil_of_le (by rw [HLEN.out]; exact Nat.le_refl _)
          have hok : (InM.mk (b.drop a) bad).ok (sizeN sz) = (!bad && decide (1 ≤ sz ∧ sz ≤ 7 ∧ sz ≤ (len0 : Int) - (a : Int))) := by
            unfold InM.ok sizeN
            show (!bad && decide (0 ≤ _) && decide (_ ≤ ((b.drop a).length : Int))) = _
            rw [hlb, Bool.and_assoc]
            congr 1
            rw [← Bool.decide_and]
            apply decide_eq_decide.2
            split <;> omega
          have hok2 : (InM.mk (b.drop a) bad).ok sz = (!bad && decide (0 ≤ sz ∧ sz ≤ (len0 : Int) - (a : Int))) := by
            unfold InM.ok
            show (!bad && decide (0 ≤ _) && decide (_ ≤ ((b.drop a).length : Int))) = _
            rw [hlb, Bool.and_assoc]
            congr 1
            rw [← Bool.decide_and]
            apply decide_eq_decide.2
            omega
          clear hx hitems hlb
          by_cases hk : kd < 3
          · have dk : decide (kd < 3) = true := by simp; omega
            clear hok2
            by_cases hokb : (InM.mk (b.drop a) bad).ok (sizeN sz) = true
            · rw [hok] at hokb
              simp only [Bool.and_eq_true, Bool.not_eq_true', decide_eq_true_eq] at hokb
              obtain ⟨rfl, h1, h7, hsz⟩ := hokb
              obtain ⟨k, rfl⟩ := Int.eq_ofNat_of_zero_le (show 0 ≤ sz by omega)
              have hokt : (InM.mk (b.drop a) false).ok (sizeN (k : Int)) = true := by rw [hok]; simp; omega
              have hszN : sizeN (k : Int) = (k : Int) := by unfold sizeN; rw [if_pos ⟨h1, h7⟩]
              have hgot : Hid ((InM.mk (b.drop a) false).got (sizeN (k : Int)) = (b.drop a).take k) := by show _ = _; rw [good_got hokt, hszN]; rfl
              have hrest : Hid ((InM.mk (b.drop a) false).rest (sizeN (k : Int)) = ⟨b.drop (a + k), false⟩) := by show _ = _; rw [good_rest hokt, hszN]; show InM.mk ((b.drop a).drop k) false = _; rw [List.drop_drop]
              have dA : decide ((k : Int) < 1) = false := by simp; omega
              have dB : decide (7 < (k : Int)) = false := by simp; omega
              have dC : decide ((len0 : Int) - (a : Int) < (k : Int)) = false := by simp; omega
              obtain ⟨e_, he⟩ : ∃ e, e = a + k := ⟨_, rfl⟩
              have xe : (a : Int) + (k : Int) = (e_ : Int) := by omega
              have sl : ∀ w', (Instr.slice 22 (.slice a0 len0 cap0) (some (.int .i64 (a : Int))) (some (.int .i64 (e_ : Int))) none).run Try.prog w' = .ok (.slice (cut a0 cap0 a) k (cap0 - a)) w' := by
                have := slice_lh a0 len0 cap0 a e_ (by omega) (by omega)
                rwa [show e_ - a = k by omega] at this
              have hmid := fun (w' : World) (h : RB w' a0 len0 b) => h.mid (lo := a) (hi := e_) (cap := cap0) (by omega) (by omega) hle
              rw [show e_ - a = k by omega] at hmid
              have HMID := Lib.hid hmid
              have hlt : num ((b.drop a).take k) < 256 ^ 7 := num_lt_of (n := 7) (fun y hy => H.out.2.1 y (List.mem_of_mem_drop (List.mem_of_mem_take hy))) (by rw [List.length_take]; omega)
              obtain ⟨q, hq⟩ : ∃ q, q = num ((b.drop a).take k) := ⟨_, rfl⟩
              have hq56 : q < 72057594037927936 := by rw [hq]; exact hlt
              have HQ := Lib.hid hq
              have wq : IntKind.i64.wrap (q : Int) = (q : Int) := by rw [IntKind.wrap_i64]; omega
              have hel : e_ ≤ len0 := by omega
              have hleft : ((b.drop e_).length : Int) = (len0 : Int) - (e_ : Int) := by rw [List.length_drop, HLEN.out]; omega
              have HLEFT := Lib.hid hleft
              rw [← he] at hrest
              clear hok hokt hszN hmid hlt hq he hleft hbad
              go_wp2_with fail
              refine (in_n g _ (k : Int) wr HI.out).mono ?_
              rintro e w2 ⟨rfl, hI2, hO2⟩
              rw [hgot.out, ← HQ.out]
              rw [hrest.out] at hI2
              have HI2 := Lib.hid hI2
              have HB2 := Lib.hid (HB.out.trans (hO2.below HB.out.size (fun q hq e => by omega)))
              clear hI2 hO2
              go_wp2_with fail
              refine (rnumber _ k _ _ w2 (HMID.out w2 (H.out.below HB2.out)) (by omega)).mono ?_
              rintro e w' ⟨rfl, rfl⟩
              rw [← HQ.out]
              go_wp2_with fail
              refine (in_bad g _ _ HI2.out).mono ?_
              rintro e w' ⟨rfl, rfl⟩
              go_wp2_with fail
              refine (in_left g _ _ HI2.out).mono ?_
              rintro e w' ⟨rfl, rfl⟩
              rw [HLEFT.out]
              go_wp2_with fail
              refine (in_done g _ _ HI2.out).mono ?_
              rintro e w' ⟨rfl, rfl⟩
              by_cases hend : e_ = len0
              · have hdn : InM.done ⟨b.drop e_, false⟩ = true := by unfold InM.done; show (!false && decide ((b.drop e_).length = 0)) = true; rw [List.length_drop, HLEN.out, hend]; simp
                rw [hdn]
                have de : ((e_ : Int) == (len0 : Int)) = true := by simp; omega
                clear hend
                go_wp2_with fail
                go_roundw
                case rel => exact ⟨j + 1, e_, false, by go_num, rfl, rfl, hj, hel, (fun h => by cases h), HI2.out, HB2.out⟩
                case measure => simp [intOf]; omega
              · have hdn : InM.done ⟨b.drop e_, false⟩ = false := by unfold InM.done; show (!false && decide ((b.drop e_).length = 0)) = false; rw [List.length_drop, HLEN.out]; simp; omega
                rw [hdn]
                have de : ((e_ : Int) == (len0 : Int)) = false := by simp; omega
                go_wp2_with fail
                go_roundw
                case rel => exact ⟨j + 1, e_, false, by go_num, rfl, rfl, hj, hel, (fun h => by cases h), HI2.out, HB2.out⟩
                case measure => simp [intOf]; omega
            · have hokf : (InM.mk (b.drop a) bad).ok (sizeN sz) = false := by simpa using hokb
              have hgot : Hid (((num ((InM.mk (b.drop a) bad).got (sizeN sz)) : Nat) : Int) = 0) := by show _ = _; rw [bad_got hokf]; rfl
              have hrest : Hid ((InM.mk (b.drop a) bad).rest (sizeN sz) = ⟨[], true⟩) := bad_rest hokf
              rw [hok] at hokf
              clear hok hokb
              cases hbd : bad with
              | true =>
                obtain rfl := hbd
                clear hokf hbad
                go_wp2_with fail
                refine (in_n g _ sz wr HI.out).mono ?_
                rintro e w2 ⟨rfl, hI2, hO2⟩
                rw [hgot.out]
                rw [hrest.out] at hI2
                have HI2 := Lib.hid hI2
                have HB2 := Lib.hid (HB.out.trans (hO2.below HB.out.size (fun q hq e => by omega)))
                clear hI2 hO2
                clear HI
                go_wp2_with fail
                refine (in_bad g _ _ HI2.out).mono ?_
                rintro e w' ⟨rfl, rfl⟩
                go_wp2_with fail
                refine (in_left g _ _ HI2.out).mono ?_
                rintro e w' ⟨rfl, rfl⟩
                go_wp2_with fail
                refine (in_done g _ _ HI2.out).mono ?_
                rintro e w' ⟨rfl, rfl⟩
                rw [hdoneb]
                go_wp2_with fail
                go_roundw
                case rel => exact ⟨j + 1, len0, true, by go_num, rfl, rfl, hj, Nat.le_refl _, fun _ => rfl, by rw [hdropend]; exact HI2.out, HB2.out⟩
                case measure => simp [intOf]; omega
              | false =>
                obtain rfl := hbd
                have hno : ¬ (1 ≤ sz ∧ sz ≤ 7 ∧ sz ≤ (len0 : Int) - (a : Int)) := by simpa using hokf
                clear hokf hbad
                by_cases hA : sz < 1
                · have dA : decide (sz < 1) = true := by simp; omega
                  go_wp2_with fail
                  refine (in_n g _ sz wr HI.out).mono ?_
                  rintro e w2 ⟨rfl, hI2, hO2⟩
                  rw [hgot.out]
                  rw [hrest.out] at hI2
                  have HI2 := Lib.hid hI2
                  have HB2 := Lib.hid (HB.out.trans (hO2.below HB.out.size (fun q hq e => by omega)))
                  clear hI2 hO2
                  clear HI
                  go_wp2_with fail
                  refine (in_bad g _ _ HI2.out).mono ?_
                  rintro e w' ⟨rfl, rfl⟩
                  go_wp2_with fail
                  refine (in_left g _ _ HI2.out).mono ?_
                  rintro e w' ⟨rfl, rfl⟩
                  go_wp2_with fail
                  refine (in_done g _ _ HI2.out).mono ?_
                  rintro e w' ⟨rfl, rfl⟩
                  rw [hdoneb]
                  go_wp2_with fail
                  go_roundw
                  case rel => exact ⟨j + 1, len0, true, by go_num, rfl, rfl, hj, Nat.le_refl _, fun _ => rfl, by rw [hdropend]; exact HI2.out, HB2.out⟩
                  case measure => simp [intOf]; omega
                · have dA : decide (sz < 1) = false := by simp; omega
                  by_cases hB7 : 7 < sz
                  · have dB : decide (7 < sz) = true := by simp; omega
                    go_wp2_with fail
                    refine (in_n g _ sz wr HI.out).mono ?_
                    rintro e w2 ⟨rfl, hI2, hO2⟩
                    rw [hgot.out]
                    rw [hrest.out] at hI2
                    have HI2 := Lib.hid hI2
                    have HB2 := Lib.hid (HB.out.trans (hO2.below HB.out.size (fun q hq e => by omega)))
                    clear hI2 hO2
                    clear HI
                    go_wp2_with fail
                    refine (in_bad g _ _ HI2.out).mono ?_
                    rintro e w' ⟨rfl, rfl⟩
                    go_wp2_with fail
                    refine (in_left g _ _ HI2.out).mono ?_
                    rintro e w' ⟨rfl, rfl⟩
                    go_wp2_with fail
                    refine (in_done g _ _ HI2.out).mono ?_
                    rintro e w' ⟨rfl, rfl⟩
                    rw [hdoneb]
                    go_wp2_with fail
                    go_roundw
                    case rel => exact ⟨j + 1, len0, true, by go_num, rfl, rfl, hj, Nat.le_refl _, fun _ => rfl, by rw [hdropend]; exact HI2.out, HB2.out⟩
                    case measure => simp [intOf]; omega
                  · have dB : decide (7 < sz) = false := by simp; omega
                    have dC : decide ((len0 : Int) - (a : Int) < sz) = true := by simp; omega
                    go_wp2_with fail
                    refine (in_n g _ sz wr HI.out).mono ?_
                    rintro e w2 ⟨rfl, hI2, hO2⟩
                    rw [hgot.out]
                    rw [hrest.out] at hI2
                    have HI2 := Lib.hid hI2
                    have HB2 := Lib.hid (HB.out.trans (hO2.below HB.out.size (fun q hq e => by omega)))
                    clear hI2 hO2
                    clear HI
                    go_wp2_with fail
                    refine (in_bad g _ _ HI2.out).mono ?_
                    rintro e w' ⟨rfl, rfl⟩
                    go_wp2_with fail
                    refine (in_left g _ _ HI2.out).mono ?_
                    rintro e w' ⟨rfl, rfl⟩
                    go_wp2_with fail
                    refine (in_done g _ _ HI2.out).mono ?_
                    rintro e w' ⟨rfl, rfl⟩
                    rw [hdoneb]
                    go_wp2_with fail
                    go_roundw
                    case rel => exact ⟨j + 1, len0, true, by go_num, rfl, rfl, hj, Nat.le_refl _, fun _ => rfl, by rw [hdropend]; exact HI2.out, HB2.out⟩
                    case measure => simp [intOf]; omega
          · have dk : decide (kd < 3) = false := by simp; omega
            clear hok
            by_cases hokb : (InM.mk (b.drop a) bad).ok sz = true
            · rw [hok2] at hokb
              simp only [Bool.and_eq_true, Bool.not_eq_true', decide_eq_true_eq] at hokb
              obtain ⟨rfl, h1, hsz⟩ := hokb
              obtain ⟨k, rfl⟩ := Int.eq_ofNat_of_zero_le h1
              have hokt : (InM.mk (b.drop a) false).ok (k : Int) = true := by rw [hok2]; simp; omega
              have hgot : Hid ((InM.mk (b.drop a) false).got (k : Int) = (b.drop a).take k) := by show _ = _; rw [good_got hokt]; rfl
              have hrest : Hid ((InM.mk (b.drop a) false).rest (k : Int) = ⟨b.drop (a + k), false⟩) := by show _ = _; rw [good_rest hokt]; show InM.mk ((b.drop a).drop k) false = _; rw [List.drop_drop]
              have dA : decide ((k : Int) < 0) = false := by simp
              have dC : decide ((len0 : Int) - (a : Int) < (k : Int)) = false := by simp; omega
              obtain ⟨e_, he⟩ : ∃ e, e = a + k := ⟨_, rfl⟩
              have xe : (a : Int) + (k : Int) = (e_ : Int) := by omega
              have xe' : IntKind.i64.wrap (e_ : Int) = (e_ : Int) := by rw [IntKind.wrap_i64]; omega
              have sl : ∀ w', (Instr.slice 22 (.slice a0 len0 cap0) (some (.int .i64 (a : Int))) (some (.int .i64 (e_ : Int))) none).run Try.prog w' = .ok (.slice (cut a0 cap0 a) k (cap0 - a)) w' := by
                have := slice_lh a0 len0 cap0 a e_ (by omega) (by omega)
                rwa [show e_ - a = k by omega] at this
              have hmid := fun (w' : World) (h : RB w' a0 len0 b) => h.mid (lo := a) (hi := e_) (cap := cap0) (by omega) (by omega) hle
              rw [show e_ - a = k by omega] at hmid
              have HMID := Lib.hid hmid
              have hel : e_ ≤ len0 := by omega
              have hleft : ((b.drop e_).length : Int) = (len0 : Int) - (e_ : Int) := by rw [List.length_drop, HLEN.out]; omega
              have HLEFT := Lib.hid hleft
              rw [← he] at hrest
              clear hok2 hokt hmid he hleft hbad
              go_wp2_with fail
              refine (in_raw g _ (k : Int) wr HI.out hlen5).mono ?_
              rintro e w2 ⟨Ar_, mr, cr, rfl, hmc, hRr, hI2, hO2⟩
              rw [hgot.out] at hRr
              rw [hrest.out] at hI2
              have HI2 := Lib.hid hI2
              have HB2 := Lib.hid (HB.out.trans (hO2.below HB.out.size (fun q hq e => by omega)))
              have kq1 : ∀ q : Nat, (convert 22 9 (.slice Ar_ mr cr)).run Try.prog (w2.drewN q) = .ok (.string (str ((b.drop a).take k))) (w2.drewN q) := fun q => conv_rb (w := w2.drewN q) hRr cr
              have hm2 := HMID.out w2 (H.out.below HB2.out)
              have kq2 : ∀ q : Nat, (convert 22 9 (.slice (cut a0 cap0 a) k (cap0 - a))).run Try.prog (w2.drewN q) = .ok (.string (str ((b.drop a).take k))) (w2.drewN q) := fun q => conv_rb (w := w2.drewN q) hm2 (cap0 - a)
              have hse : ((str ((b.drop a).take k)).toList == (str ((b.drop a).take k)).toList) = true := by simp
              clear hI2 hO2 hRr hm2
              go_wp2_with fail
              go_quiet (fail)
              have HI3 : Hid (InS (w2.drewN nq) g ⟨b.drop e_, false⟩) := Lib.hid (show InS (w2.drewN nq) g ⟨b.drop e_, false⟩ from HI2.out)
              have HB3 := Lib.hid (Below.dn HB2.out nq)
              clear kq1 kq2 HI2 HB2
              generalize w2.drewN nq = w3 at *
              go_wp2_with fail
              refine (in_bad g _ _ HI3.out).mono ?_
              rintro e w' ⟨rfl, rfl⟩
              go_wp2_with fail
              refine (in_left g _ _ HI3.out).mono ?_
              rintro e w' ⟨rfl, rfl⟩
              rw [HLEFT.out]
              go_wp2_with fail
              refine (in_done g _ _ HI3.out).mono ?_
              rintro e w' ⟨rfl, rfl⟩
              by_cases hend : e_ = len0
              · have hdn : InM.done ⟨b.drop e_, false⟩ = true := by unfold InM.done; show (!false && decide ((b.drop e_).length = 0)) = true; rw [List.length_drop, HLEN.out, hend]; simp
                rw [hdn]
                have de : ((e_ : Int) == (len0 : Int)) = true := by simp; omega
                clear hend
                go_wp2_with fail
                go_roundw
                case rel => exact ⟨j + 1, e_, false, by go_num, rfl, rfl, hj, hel, (fun h => by cases h), HI3.out, HB3.out⟩
                case measure => simp [intOf]; omega
              · have hdn : InM.done ⟨b.drop e_, false⟩ = false := by unfold InM.done; show (!false && decide ((b.drop e_).length = 0)) = false; rw [List.length_drop, HLEN.out]; simp; omega
                rw [hdn]
                have de : ((e_ : Int) == (len0 : Int)) = false := by simp; omega
                go_wp2_with fail
                go_roundw
                case rel => exact ⟨j + 1, e_, false, by go_num, rfl, rfl, hj, hel, (fun h => by cases h), HI3.out, HB3.out⟩
                case measure => simp [intOf]; omega
            · have hokf : (InM.mk (b.drop a) bad).ok sz = false := by simpa using hokb
              have hgot : Hid ((InM.mk (b.drop a) bad).got sz = []) := bad_got hokf
              have hrest : Hid ((InM.mk (b.drop a) bad).rest sz = ⟨[], true⟩) := bad_rest hokf
              rw [hok2] at hokf
              clear hok2 hokb
              cases hbd : bad with
              | true =>
                obtain rfl := hbd
                clear hokf hbad
                go_wp2_with fail
                refine (in_raw g _ sz wr HI.out hlen5).mono ?_
                rintro e w2 ⟨Ar_, mr, cr, rfl, hmc, hRr, hI2, hO2⟩
                rw [hgot.out] at hRr
                rw [hrest.out] at hI2
                obtain rfl : mr = 0 := hRr.1.symm
                have HI2 := Lib.hid hI2
                have HB2 := Lib.hid (HB.out.trans (hO2.below HB.out.size (fun q hq e => by omega)))
                clear hI2 hO2 hRr
                go_wp2_with fail
                go_quiet (fail)
                have HI3 : Hid (InS (w2.drewN nq) g ⟨[], true⟩) := Lib.hid (show InS (w2.drewN nq) g ⟨[], true⟩ from HI2.out)
                have HB3 := Lib.hid (Below.dn HB2.out nq)
                clear HI2 HB2
                generalize w2.drewN nq = w3 at *
                clear HI
                go_wp2_with fail
                refine (in_bad g _ _ HI3.out).mono ?_
                rintro e w' ⟨rfl, rfl⟩
                go_wp2_with fail
                refine (in_left g _ _ HI3.out).mono ?_
                rintro e w' ⟨rfl, rfl⟩
                go_wp2_with fail
                refine (in_done g _ _ HI3.out).mono ?_
                rintro e w' ⟨rfl, rfl⟩
                rw [hdoneb]
                go_wp2_with fail
                go_roundw
                case rel => exact ⟨j + 1, len0, true, by go_num, rfl, rfl, hj, Nat.le_refl _, fun _ => rfl, by rw [hdropend]; exact HI3.out, HB3.out⟩
                case measure => simp [intOf]; omega
              | false =>
                obtain rfl := hbd
                have hno : ¬ (0 ≤ sz ∧ sz ≤ (len0 : Int) - (a : Int)) := by simpa using hokf
                clear hokf hbad
                by_cases hA : sz < 0
                · have dA : decide (sz < 0) = true := by simp; omega
                  go_wp2_with fail
                  refine (in_raw g _ sz wr HI.out hlen5).mono ?_
                  rintro e w2 ⟨Ar_, mr, cr, rfl, hmc, hRr, hI2, hO2⟩
                  rw [hgot.out] at hRr
                  rw [hrest.out] at hI2
                  obtain rfl : mr = 0 := hRr.1.symm
                  have HI2 := Lib.hid hI2
                  have HB2 := Lib.hid (HB.out.trans (hO2.below HB.out.size (fun q hq e => by omega)))
                  clear hI2 hO2 hRr
                  go_wp2_with fail
                  go_quiet (fail)
                  have HI3 : Hid (InS (w2.drewN nq) g ⟨[], true⟩) := Lib.hid (show InS (w2.drewN nq) g ⟨[], true⟩ from HI2.out)
                  have HB3 := Lib.hid (Below.dn HB2.out nq)
                  clear HI2 HB2
                  generalize w2.drewN nq = w3 at *
                  clear HI
                  go_wp2_with fail
                  refine (in_bad g _ _ HI3.out).mono ?_
                  rintro e w' ⟨rfl, rfl⟩
                  go_wp2_with fail
                  refine (in_left g _ _ HI3.out).mono ?_
                  rintro e w' ⟨rfl, rfl⟩
                  go_wp2_with fail
                  refine (in_done g _ _ HI3.out).mono ?_
                  rintro e w' ⟨rfl, rfl⟩
                  rw [hdoneb]
                  go_wp2_with fail
                  go_roundw
                  case rel => exact ⟨j + 1, len0, true, by go_num, rfl, rfl, hj, Nat.le_refl _, fun _ => rfl, by rw [hdropend]; exact HI3.out, HB3.out⟩
                  case measure => simp [intOf]; omega
                · have dA : decide (sz < 0) = false := by simp; omega
                  have dC : decide ((len0 : Int) - (a : Int) < sz) = true := by simp; omega
                  go_wp2_with fail
                  refine (in_raw g _ sz wr HI.out hlen5).mono ?_
                  rintro e w2 ⟨Ar_, mr, cr, rfl, hmc, hRr, hI2, hO2⟩
                  rw [hgot.out] at hRr
                  rw [hrest.out] at hI2
                  obtain rfl : mr = 0 := hRr.1.symm
                  have HI2 := Lib.hid hI2
                  have HB2 := Lib.hid (HB.out.trans (hO2.below HB.out.size (fun q hq e => by omega)))
                  clear hI2 hO2 hRr
                  go_wp2_with fail
                  go_quiet (fail)
                  have HI3 : Hid (InS (w2.drewN nq) g ⟨[], true⟩) := Lib.hid (show InS (w2.drewN nq) g ⟨[], true⟩ from HI2.out)
                  have HB3 := Lib.hid (Below.dn HB2.out nq)
                  clear HI2 HB2
                  generalize w2.drewN nq = w3 at *
                  clear HI
                  go_wp2_with fail
                  refine (in_bad g _ _ HI3.out).mono ?_
                  rintro e w' ⟨rfl, rfl⟩
                  go_wp2_with fail
                  refine (in_left g _ _ HI3.out).mono ?_
                  rintro e w' ⟨rfl, rfl⟩
                  go_wp2_with fail
                  refine (in_done g _ _ HI3.out).mono ?_
                  rintro e w' ⟨rfl, rfl⟩
                  rw [hdoneb]
                  go_wp2_with fail
                  go_roundw
                  case rel => exact ⟨j + 1, len0, true, by go_num, rfl, rfl, hj, Nat.le_refl _, fun _ => rfl, by rw [hdropend]; exact HI3.out, HB3.out⟩
                  case measure => simp [intOf]; omega
        · go_wp2
          go_ret
          exact ⟨rfl, HB.out⟩
end Go.Proofs.Ytinndlofnpkfhaa
