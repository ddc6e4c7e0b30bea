/-
  The walk of the law CodecWrites.
-/
import Derived.Test.YtinndlofnpkfhaaWr
import Derived.Test.YtinndlofnpkfhaaLawReads
namespace Go.Proofs.Ytinndlofnpkfhaa
open Go.RowKit

theorem pow_w (s : Nat) (hs : s ≤ 7) : IntKind.u64.wrap ((2 : Int) ^ (8 * s)) = ((256 ^ s : Nat) : Int) := by
  have e : (2 : Int) ^ (8 * s) = ((256 ^ s : Nat) : Int) := by rw [show (256 : Nat) = 2 ^ 8 from rfl, ← Nat.pow_mul]; simp
  have h : 256 ^ s ≤ 256 ^ 7 := Nat.pow_le_pow_right (by decide) hs
  rw [e, IntKind.wrap_u64]
  generalize 256 ^ s = P at *
  omega

attribute [local irreducible] Calls in
set_option maxRecDepth 8000 in
set_option maxHeartbeats 4000000 in
theorem codecWrites_walk (a1 : Option Addr) (len1 cap1 : Nat) (R : List Item) (w : World) (w1 : Items w a1 len1 R) :
    Calls Try.prog 5 #[.slice a1 len1 cap1] w fun e w' => e = .returned (.bool true) ∧ Below w.heap.size w w' := by
  have HR := Lib.hid w1
  clear w1
  go_enter Try.func5, Try.ntmps5
  go_wp2_with fail
  refine (awake03 _).mono ?_
  rintro e w1 ⟨rfl, hb1⟩
  go_wp2_with fail
  refine (few_any a1 len1 cap1 R w1 (HR.out.below hb1)).mono ?_
  rintro e w1' ⟨f, rfl, hfew, rfl⟩
  cases f with
  | false =>
    go_wp2_with fail
    refine (awake03 _).mono ?_
    rintro e w2 ⟨rfl, hb2⟩
    go_wp2
    go_ret
    exact ⟨rfl, hb1.trans (hb2.mono hb1.size)⟩
  | true =>
    have hl100 : len1 ≤ 100 := by rw [← HR.out.1]; exact (hfew rfl).1
    have hsum := (hfew rfl).2
    obtain ⟨g, hg⟩ : ∃ g, g = w1'.heap.size := ⟨_, rfl⟩
    have hgw : w.heap.size ≤ g := by rw [hg]; exact hb1.size
    have hO : OutS (w1'.alloc (.cells #[.slice none 0 0, .bool false] 40)) g (g + 1) none 0 0 [] false := ⟨by rw [hg]; exact heap_alloc_new w1' _, Own.nil _ _⟩
    have hB0 : Below w.heap.size w (w1'.alloc (.cells #[.slice none 0 0, .bool false] 40)) := hb1.alloc hb1.size _
    have HO := Lib.hid hO
    have HB0 := Lib.hid hB0
    have HG := Lib.hid hg
    have HSUM : Hid (∀ j, sumN (R.take j) ≤ 200000) := fun j => Nat.le_trans (by
      have h1 := List.take_append_drop j R
      have h2 : sumN R = sumN (R.take j) + sumN (R.drop j) := by
        conv => lhs; rw [← h1]
        unfold sumN
        rw [List.map_append, List.sum_append]
      omega) hsum
    clear hfew hsum hg hO hB0 hb1
    go_wp2_with fail
    rw [← HG.out]
    go_loopw [23, 4, 5] (fun v v4 v5 wr => ∃ (j : Nat) (A : Option Addr) (n c : Nat) (l : List Nat) (sp : Bool) (A4 : Option Addr) (n4 c4 : Nat) (wl : List Nat), v = .int .i64 (j : Int) ∧ v4 = .slice A4 n4 c4 ∧ v5 = .bool sp ∧ j ≤ len1 ∧
        OutS wr g (g + 1) A n c l sp ∧ Own wr (g + 1) A4 n4 c4 wl ∧ (∀ k, blk A = some k → blk A4 ≠ some k) ∧ (sp = false → l = enc (R.take j) ∧ wl = l ∧ ∀ x ∈ R.take j, goodI x) ∧
        n ≤ sumN (R.take j) + 9 * j ∧ n4 ≤ sumN (R.take j) + 9 * j ∧ Below w.heap.size w wr) (fun v _ _ _ => len1 - (intOf v).toNat)
    case atStart => exact ⟨0, none, 0, 0, [], false, none, 0, 0, [], rfl, rfl, rfl, Nat.zero_le _, HO.out, Own.nil _ _, fun k hk => by simp [blk] at hk, fun _ => ⟨rfl, rfl, by simp⟩, Nat.zero_le _, Nat.zero_le _, HB0.out⟩
    case round =>
      clear HO HB0 HG
      obtain ⟨j, A, n, c, l, sp, A4, n4, c4, wl, rfl, rfl, rfl, hj, hout, hown, hd, hinv, hn, hn4, hB⟩ := hrel
      have hsj := HSUM.out j
      have HOUT := Lib.hid hout
      have HOWN := Lib.hid hown
      have HD := Lib.hid hd
      have HINV := Lib.hid hinv
      have HB := Lib.hid hB
      clear hout hown hd hinv hB
      by_cases hjl : j < len1
      · have hjl' : (j : Int) < (len1 : Int) := by omega
        have hsj1 := HSUM.out (j + 1)
        obtain ⟨ad, x, rfl, hx, c0, c1, c2, c3, ⟨hwk, hwv, hws⟩, hxc, -, -⟩ := (HR.out.below HB.out).at_ hjl
        have hxp := (HR.out.2.2 x (List.mem_of_getElem? hx)).2.2.2
        have htk : R.take (j + 1) = R.take j ++ [x] := by rw [List.take_add_one, hx]; rfl
        have hsx : sumN (R.take (j + 1)) = sumN (R.take j) + x.n := by rw [htk, sumN_snoc]
        rw [hsx] at hsj1
        have HTK := Lib.hid htk
        have HSX := Lib.hid hsx
        have bk := bounds_u8 hwk
        have bv := bounds_i64 hwv
        have bs := bounds_i64 hws
        obtain ⟨kd, vv, sz, xA, xn, xc, xp⟩ := x
        simp only at c0 c1 c2 c3 bk bv bs hxc hxp hsj1
        have hxl := hxp.1
        have HXP := Lib.hid hxp
        have hwq := HB.out.size
        have hB2 : Below wr.heap.size wr (wr.alloc (.cells #[.int .u8 kd, .int .i64 vv, .int .i64 sz, .slice xA xn xc] 32)) := (Below.refl _ _).alloc (Nat.le_refl _) _
        have hblk : (wr.alloc (.cells #[.int .u8 kd, .int .i64 vv, .int .i64 sz, .slice xA xn xc] 32)).heap[wr.heap.size]? = some (.cells #[.int .u8 kd, .int .i64 vv, .int .i64 sz, .slice xA xn xc] 32 (0, 0)) := heap_alloc_new wr _
        have HB2 := Lib.hid (HB.out.trans (hB2.mono hwq))
        have HOUT2 := Lib.hid (HOUT.out.below hB2)
        have HOWN2 := Lib.hid (HOWN.out.only (Only.of_below hB2 (fun _ => False)) (fun _ _ h => h))
        have hgl : g < wr.heap.size := (Array.getElem?_eq_some_iff.1 HOUT.out.1).1
        have HNOS : Hid (¬ OS g A wr.heap.size) := fun e => by
          rcases e with e | e
          · omega
          · have := (HOUT.out.2.lt _ e).2; omega
        have HBLK := Lib.hid hblk
        have hszw : g + 1 ≤ (wr.alloc (.cells #[.int .u8 kd, .int .i64 vv, .int .i64 sz, .slice xA xn xc] 32)).heap.size := by simp; omega
        clear hx htk hsx hxp hB2 hblk
        by_cases hk : kd < 3
        · have dk : decide (kd < 3) = true := by simp; omega
          go_wp2_with fail
          generalize wr.alloc (.cells #[.int .u8 kd, .int .i64 vv, .int .i64 sz, .slice xA xn xc] 32) = w2 at *
          by_cases hfit : 1 ≤ sz ∧ sz ≤ 7 ∧ 0 ≤ vv ∧ vv < 256 ^ sz.toNat
          · have hfit0 : Hid (fits ⟨kd, vv, sz, xA, xn, xc, xp⟩) := hfit
            obtain ⟨f1, f2, f3, f4⟩ := hfit
            obtain ⟨s, rfl⟩ := Int.eq_ofNat_of_zero_le (show 0 ≤ sz by omega)
            obtain ⟨X, rfl⟩ := Int.eq_ofNat_of_zero_le f3
            rw [Int.toNat_natCast] at f4
            have hX : X < 256 ^ s := by
              have e : ((256 ^ s : Nat) : Int) = (256 : Int) ^ s := by simp
              omega
            have hX7 : X < 72057594037927936 := Nat.lt_of_lt_of_le hX (Nat.pow_le_pow_right (by decide) (show s ≤ 7 by omega))
            have dA : decide ((s : Int) < 1) = false := by simp; omega
            have dB : decide (7 < (s : Int)) = false := by simp; omega
            have dV : decide ((X : Int) < 0) = false := by simp
            have hpw := pow_w s (by omega)
            obtain ⟨P, hP⟩ : ∃ P, P = 256 ^ s := ⟨_, rfl⟩
            rw [← hP] at hpw
            have dP : decide ((P : Int) ≤ (X : Int)) = false := by simp; omega
            have hXP : (X : Int) < (P : Int) := by omega
            have hXPn : X < P := by omega
            have wX : IntKind.u64.wrap (X : Int) = (X : Int) := by rw [IntKind.wrap_u64]; omega
            have HE : Hid (encI ⟨kd, (X : Int), (s : Int), xA, xn, xc, xp⟩ = beb X s) := by show _ = _; unfold encI; rw [if_pos hk]; rfl
            refine (out_n_loop g (g + 1) A n c l sp X s w2 HOUT2.out hszw (by omega) (by omega) hX (by omega)).mono ?_
            rintro e w3 ⟨A3, n3, c3', rfl, hout3, ho3, hbk3⟩
            have hn3 : n3 = n + s := by rw [← hout3.2.1, List.length_append, beb_length, HOUT2.out.2.1]
            obtain ⟨hown3, hd3⟩ := own_after_out HOWN2.out HD.out ho3 hbk3
            have b7 := ho3.heap HBLK.out HNOS.out
            have k1 : w3.cell? ⟨wr.heap.size, 1, none⟩ = some (.int .i64 (X : Int)) := cell_of_row w3 _ 1 _ _ _ b7
            have k2 : w3.cell? ⟨wr.heap.size, 2, none⟩ = some (.int .i64 (s : Int)) := cell_of_row w3 _ 2 _ _ _ b7
            have HB3 := Lib.hid (outs_below HB2.out HOUT2.out (by omega) (by omega) HB2.out.size ho3)
            have HOUT3 := Lib.hid hout3
            have HOWN3 := Lib.hid hown3
            have HD3 := Lib.hid hd3
            clear hP hX f4 hout3 ho3 hbk3 hown3 hd3 b7
            go_wp2_with fail
            refine (rbytes X s w3 (by omega) (by omega)).mono ?_
            rintro e w4 ⟨Ab, cb, rfl, hownb, hb4⟩
            have hown4 := HOWN3.out.only (Only.of_below hb4 (fun _ => False)) (fun _ _ h => h)
            have hout4 := HOUT3.out.below hb4
            have hrb := hownb.read
            have HB4 := Lib.hid (HB3.out.trans (hb4.mono HB3.out.size))
            have hwq4 : g + 1 ≤ w4.heap.size := by have := (Array.getElem?_eq_some_iff.1 hout4.1).1; omega
            have HOUT4 := Lib.hid hout4
            clear hownb hb4 hout4
            go_wp2_with (first
              | (at_builtin; refine wpList_append_rb rfl (.tmp 70) (.tmp 76) rfl rfl rfl hown4 hrb (by omega) hwq4 ?_; intro A5 c5 w5 hown5 ho5 hbk5))
            obtain ⟨hout5, hd5⟩ := out_after_app HOUT4.out HD3.out ho5 hbk5 (fun k hk => (hown4.lt k hk).1)
            have HB5 := Lib.hid (HB4.out.trans (ho5.below HB4.out.size (fun i hi e => by have := (hown4.lt i e).1; omega)))
            have HOUT5 := Lib.hid hout5
            have HOWN5 := Lib.hid hown5
            have HD5 := Lib.hid hd5
            clear hown4 hrb ho5 hbk5 hout5 hd5 hown5
            go_roundw
            case rel =>
              refine ⟨j + 1, A3, n3, c3', l ++ beb X s, sp, A5, n4 + s, c5, wl ++ beb X s, by go_num, rfl, rfl, hjl, HOUT5.out, HOWN5.out, HD5.out, fun hsp => ?_, by rw [HSX.out]; omega, by rw [HSX.out]; omega, HB5.out⟩
              obtain ⟨q1, q2, q3⟩ := HINV.out hsp
              rw [HTK.out, enc_snoc, HE.out, q2, ← q1]
              refine ⟨rfl, rfl, fun y hy => ?_⟩
              rcases List.mem_append.1 hy with h | h
              · exact q3 y h
              · rw [List.mem_singleton.1 h]
                exact ⟨fun _ => hfit0.out, fun h3 => by have h3' : kd = 3 := h3; omega⟩
            case measure => simp [intOf]; omega
          · refine (out_n_bad g (g + 1) A n c l sp vv sz w2 HOUT2.out bv.1 bv.2 hfit).mono ?_
            rintro e w3 ⟨A3, n3, c3', rfl, hout3, ho3, hbk3⟩
            have hn3 : n3 = n := by rw [← hout3.2.1, HOUT2.out.2.1]
            obtain ⟨hown3, hd3⟩ := own_after_out HOWN2.out HD.out ho3 hbk3
            have b7 := ho3.heap HBLK.out HNOS.out
            have k1 : w3.cell? ⟨wr.heap.size, 1, none⟩ = some (.int .i64 vv) := cell_of_row w3 _ 1 _ _ _ b7
            have k2 : w3.cell? ⟨wr.heap.size, 2, none⟩ = some (.int .i64 sz) := cell_of_row w3 _ 2 _ _ _ b7
            have HB3 := Lib.hid (outs_below HB2.out HOUT2.out (by omega) (by omega) HB2.out.size ho3)
            have HOUT3 := Lib.hid hout3
            have HOWN3 := Lib.hid hown3
            have HD3 := Lib.hid hd3
            clear hout3 ho3 hbk3 hown3 hd3 b7
            by_cases hA : sz < 1
            · have dA : decide (sz < 1) = true := by simp; omega
              clear hfit
              go_wp2_with fail
              go_roundw
              case rel => exact ⟨j + 1, A3, n3, c3', l, true, A4, n4, c4, wl, by go_num, rfl, rfl, hjl, HOUT3.out, HOWN3.out, HD3.out, (fun h => by cases h), by rw [HSX.out]; omega, by rw [HSX.out]; omega, HB3.out⟩
              case measure => simp [intOf]; omega
            · have dA : decide (sz < 1) = false := by simp; omega
              by_cases hB7 : 7 < sz
              · have dB : decide (7 < sz) = true := by simp; omega
                clear hfit
                go_wp2_with fail
                go_roundw
                case rel => exact ⟨j + 1, A3, n3, c3', l, true, A4, n4, c4, wl, by go_num, rfl, rfl, hjl, HOUT3.out, HOWN3.out, HD3.out, (fun h => by cases h), by rw [HSX.out]; omega, by rw [HSX.out]; omega, HB3.out⟩
                case measure => simp [intOf]; omega
              · have dB : decide (7 < sz) = false := by simp; omega
                by_cases hV : vv < 0
                · have dV : decide (vv < 0) = true := by simp; omega
                  clear hfit
                  go_wp2_with fail
                  go_roundw
                  case rel => exact ⟨j + 1, A3, n3, c3', l, true, A4, n4, c4, wl, by go_num, rfl, rfl, hjl, HOUT3.out, HOWN3.out, HD3.out, (fun h => by cases h), by rw [HSX.out]; omega, by rw [HSX.out]; omega, HB3.out⟩
                  case measure => simp [intOf]; omega
                · have dV : decide (vv < 0) = false := by simp; omega
                  obtain ⟨s, rfl⟩ := Int.eq_ofNat_of_zero_le (show 0 ≤ sz by omega)
                  obtain ⟨X, rfl⟩ := Int.eq_ofNat_of_zero_le (show 0 ≤ vv by omega)
                  have hpw := pow_w s (by omega)
                  have hPX : 256 ^ s ≤ X := by
                    rw [Int.toNat_natCast] at hfit
                    have e : ((256 ^ s : Nat) : Int) = (256 : Int) ^ s := by simp
                    rw [← e] at hfit
                    omega
                  have wX : IntKind.u64.wrap (X : Int) = (X : Int) := by rw [IntKind.wrap_u64]; omega
                  obtain ⟨P, hP⟩ : ∃ P, P = 256 ^ s := ⟨_, rfl⟩
                  rw [← hP] at hpw hPX
                  have dP : decide ((P : Int) ≤ (X : Int)) = true := by simp; omega
                  clear hfit hP
                  go_wp2_with fail
                  go_roundw
                  case rel => exact ⟨j + 1, A3, n3, c3', l, true, A4, n4, c4, wl, by go_num, rfl, rfl, hjl, HOUT3.out, HOWN3.out, HD3.out, (fun h => by cases h), by rw [HSX.out]; omega, by rw [HSX.out]; omega, HB3.out⟩
                  case measure => simp [intOf]; omega
        · have dk : decide (kd < 3) = false := by simp; omega
          by_cases hk3 : kd = 3
          · have dk3 : (kd == 3) = true := by simp; omega
            have HE : Hid (encI ⟨kd, vv, sz, xA, xn, xc, xp⟩ = beb xp.length 2 ++ xp) := by show _ = _; unfold encI; rw [if_neg hk, if_pos hk3]
            subst hk3
            have kcv := conv_rb (HXP.out.below HB2.out) xc
            go_wp2_with fail
            generalize wr.alloc (.cells #[.int .u8 3, .int .i64 vv, .int .i64 sz, .slice xA xn xc] 32) = w2 at *
            have hss : (str xp).size = xn := by rw [str_size]; exact hxl
            have hof : ofStr (str xp) = xp := ofStr_str HXP.out.2.1
            refine (out_text g (g + 1) A n c l sp (str xp) w2 HOUT2.out hszw (by rw [hss]; omega)).mono ?_
            rintro e w3 ⟨A3, n3, c3', rfl, hout3, ho3, hbk3⟩
            rw [hss, hof] at hout3
            have hlb : (lenB xn).length ≤ 2 := by unfold lenB; split <;> simp [beb_length]
            have hn3 : n3 ≤ n + 2 + xn := by rw [← hout3.2.1, List.length_append, List.length_append, HOUT2.out.2.1, hxl]; omega
            obtain ⟨hown3, hd3⟩ := own_after_out HOWN2.out HD.out ho3 hbk3
            have b7 := ho3.heap HBLK.out HNOS.out
            have k3' : w3.cell? ⟨wr.heap.size, 3, none⟩ = some (.slice xA xn xc) := cell_of_row w3 _ 3 _ _ _ b7
            have HB3 := Lib.hid (outs_below HB2.out HOUT2.out (by omega) (by omega) HB2.out.size ho3)
            have kcv3 : (convert 22 9 (.slice xA xn xc)).run Try.prog w3 = .ok (.string (str xp)) w3 := conv_rb (HXP.out.below HB3.out) xc
            have HOUT3 := Lib.hid hout3
            have HOWN3 := Lib.hid hown3
            have HD3 := Lib.hid hd3
            have hx200 : xn ≤ 200000 := by omega
            have HSS := Lib.hid hss
            have HOF := Lib.hid hof
            clear hout3 ho3 hbk3 hown3 hd3 b7 kcv hlb hss hof
            have hspv : Hid (∀ sp', sp' = (sp || decide (65536 ≤ xn)) → sp' = (sp || decide (65535 < xn))) := fun sp' h => by rw [h]; congr 1
            by_cases hsp1 : sp = true
            · subst hsp1
              go_wp2_with fail
              refine (rtext (str xp) w3 (by rw [HSS.out]; omega)).mono ?_
              rintro e w4 ⟨Ab, cb, rfl, hownb, hb4⟩
              rw [HSS.out, HOF.out] at hownb
              rw [HSS.out]
              have hown4 := HOWN3.out.only (Only.of_below hb4 (fun _ => False)) (fun _ _ h => h)
              have hout4 := HOUT3.out.below hb4
              have hrb := hownb.read
              have HB4 := Lib.hid (HB3.out.trans (hb4.mono HB3.out.size))
              have hwq4 : g + 1 ≤ w4.heap.size := by have := (Array.getElem?_eq_some_iff.1 hout4.1).1; omega
              have HOUT4 := Lib.hid hout4
              clear hownb hb4 hout4
              go_wp2_with (first
                | (at_builtin; refine wpList_append_rb rfl (.tmp 93) (.tmp 97) rfl rfl rfl hown4 hrb (by omega) hwq4 ?_; intro A5 c5 w5 hown5 ho5 hbk5))
              obtain ⟨hout5, hd5⟩ := out_after_app HOUT4.out HD3.out ho5 hbk5 (fun k hk => (hown4.lt k hk).1)
              have HB5 := Lib.hid (HB4.out.trans (ho5.below HB4.out.size (fun i hi e => by have := (hown4.lt i e).1; omega)))
              have HOUT5 := Lib.hid hout5
              have HOWN5 := Lib.hid hown5
              have HD5 := Lib.hid hd5
              clear hown4 hrb ho5 hbk5 hout5 hd5 hown5
              go_roundw
              case rel =>
                refine ⟨j + 1, A3, n3, c3', _, _, A5, n4 + (2 + xn), c5, _, by go_num, rfl, by first | rfl | (rw [show decide (65536 ≤ xn) = true by simp; omega]; rfl), hjl, HOUT5.out, HOWN5.out, HD5.out, fun hsp => ?_, by rw [HSX.out]; show _ ≤ sumN (R.take j) + xn + _; omega, by rw [HSX.out]; show _ ≤ sumN (R.take j) + xn + _; omega, HB5.out⟩
                exfalso; revert hsp; first | (intro h; cases h; done) | (rw [show decide (65536 ≤ xn) = true by simp; omega]; intro h; cases h; done)
              case measure => simp [intOf]; omega
            · have hsp0 : sp = false := by simpa using hsp1
              subst hsp0
              by_cases hbig : 65535 < xn
              · have db : decide (65535 < (xn : Int)) = true := by simp; omega
                go_wp2_with fail
                refine (rtext (str xp) w3 (by rw [HSS.out]; omega)).mono ?_
                rintro e w4 ⟨Ab, cb, rfl, hownb, hb4⟩
                rw [HSS.out, HOF.out] at hownb
                rw [HSS.out]
                have hown4 := HOWN3.out.only (Only.of_below hb4 (fun _ => False)) (fun _ _ h => h)
                have hout4 := HOUT3.out.below hb4
                have hrb := hownb.read
                have HB4 := Lib.hid (HB3.out.trans (hb4.mono HB3.out.size))
                have hwq4 : g + 1 ≤ w4.heap.size := by have := (Array.getElem?_eq_some_iff.1 hout4.1).1; omega
                have HOUT4 := Lib.hid hout4
                clear hownb hb4 hout4
                go_wp2_with (first
                  | (at_builtin; refine wpList_append_rb rfl (.tmp 93) (.tmp 97) rfl rfl rfl hown4 hrb (by omega) hwq4 ?_; intro A5 c5 w5 hown5 ho5 hbk5))
                obtain ⟨hout5, hd5⟩ := out_after_app HOUT4.out HD3.out ho5 hbk5 (fun k hk => (hown4.lt k hk).1)
                have HB5 := Lib.hid (HB4.out.trans (ho5.below HB4.out.size (fun i hi e => by have := (hown4.lt i e).1; omega)))
                have HOUT5 := Lib.hid hout5
                have HOWN5 := Lib.hid hown5
                have HD5 := Lib.hid hd5
                clear hown4 hrb ho5 hbk5 hout5 hd5 hown5
                go_roundw
                case rel =>
                  refine ⟨j + 1, A3, n3, c3', _, _, A5, n4 + (2 + xn), c5, _, by go_num, rfl, by first | rfl | (rw [show decide (65536 ≤ xn) = true by simp; omega]; rfl), hjl, HOUT5.out, HOWN5.out, HD5.out, fun hsp => ?_, by rw [HSX.out]; show _ ≤ sumN (R.take j) + xn + _; omega, by rw [HSX.out]; show _ ≤ sumN (R.take j) + xn + _; omega, HB5.out⟩
                  exfalso; revert hsp; first | (intro h; cases h; done) | (rw [show decide (65536 ≤ xn) = true by simp; omega]; intro h; cases h; done)
                case measure => simp [intOf]; omega
              · have db : decide (65535 < (xn : Int)) = false := by simp; omega
                go_wp2_with fail
                refine (rtext (str xp) w3 (by rw [HSS.out]; omega)).mono ?_
                rintro e w4 ⟨Ab, cb, rfl, hownb, hb4⟩
                rw [HSS.out, HOF.out] at hownb
                rw [HSS.out]
                have hown4 := HOWN3.out.only (Only.of_below hb4 (fun _ => False)) (fun _ _ h => h)
                have hout4 := HOUT3.out.below hb4
                have hrb := hownb.read
                have HB4 := Lib.hid (HB3.out.trans (hb4.mono HB3.out.size))
                have hwq4 : g + 1 ≤ w4.heap.size := by have := (Array.getElem?_eq_some_iff.1 hout4.1).1; omega
                have HOUT4 := Lib.hid hout4
                clear hownb hb4 hout4
                go_wp2_with (first
                  | (at_builtin; refine wpList_append_rb rfl (.tmp 93) (.tmp 97) rfl rfl rfl hown4 hrb (by omega) hwq4 ?_; intro A5 c5 w5 hown5 ho5 hbk5))
                obtain ⟨hout5, hd5⟩ := out_after_app HOUT4.out HD3.out ho5 hbk5 (fun k hk => (hown4.lt k hk).1)
                have HB5 := Lib.hid (HB4.out.trans (ho5.below HB4.out.size (fun i hi e => by have := (hown4.lt i e).1; omega)))
                have HOUT5 := Lib.hid hout5
                have HOWN5 := Lib.hid hown5
                have HD5 := Lib.hid hd5
                clear hown4 hrb ho5 hbk5 hout5 hd5 hown5
                go_roundw
                case rel =>
                  refine ⟨j + 1, A3, n3, c3', _, _, A5, n4 + (2 + xn), c5, _, by go_num, rfl, by rw [show decide (65536 ≤ xn) = false by simp; omega]; rfl, hjl, HOUT5.out, HOWN5.out, HD5.out, fun hsp => ?_, by rw [HSX.out]; show _ ≤ sumN (R.take j) + xn + _; omega, by rw [HSX.out]; show _ ≤ sumN (R.take j) + xn + _; omega, HB5.out⟩
                  obtain ⟨q1, q2, q3⟩ := HINV.out (by first | rfl | trivial)
                  have hlB : lenB xn = beb xn 2 := by unfold lenB; rw [if_pos (by omega)]
                  rw [HTK.out, enc_snoc, HE.out, q2, ← q1, hxl, hlB, List.append_assoc]
                  refine ⟨rfl, rfl, fun y hy => ?_⟩
                  rcases List.mem_append.1 hy with h | h
                  · exact q3 y h
                  · rw [List.mem_singleton.1 h]
                    exact ⟨fun h3 => by have h4 : (3 : Int) < 3 := h3; omega, fun _ => by show xp.length ≤ 65535; omega⟩
                case measure => simp [intOf]; omega
          · have dk3 : (kd == 3) = false := by simp; omega
            have HE : Hid (encI ⟨kd, vv, sz, xA, xn, xc, xp⟩ = xp) := by show _ = _; unfold encI; rw [if_neg hk, if_neg hk3]
            go_wp2_with fail
            generalize wr.alloc (.cells #[.int .u8 kd, .int .i64 vv, .int .i64 sz, .slice xA xn xc] 32) = w2 at *
            refine (out_raw g (g + 1) A n c l sp xA xn xc xp w2 HOUT2.out hszw (HXP.out.below HB2.out) (by omega)).mono ?_
            rintro e w3 ⟨A3, n3, c3', rfl, hout3, ho3, hbk3⟩
            have hn3 : n3 = n + xn := by rw [← hout3.2.1, List.length_append, HOUT2.out.2.1, hxl]
            obtain ⟨hown3, hd3⟩ := own_after_out HOWN2.out HD.out ho3 hbk3
            have b7 := ho3.heap HBLK.out HNOS.out
            have k3 : w3.cell? ⟨wr.heap.size, 3, none⟩ = some (.slice xA xn xc) := cell_of_row w3 _ 3 _ _ _ b7
            have HB3 := Lib.hid (outs_below HB2.out HOUT2.out (by omega) (by omega) HB2.out.size ho3)
            have hrb := HXP.out.below HB3.out
            have hwq3 : g + 1 ≤ w3.heap.size := by have := (Array.getElem?_eq_some_iff.1 hout3.1).1; omega
            have HOUT3 := Lib.hid hout3
            have HD3 := Lib.hid hd3
            clear hout3 ho3 hbk3 hd3 b7
            go_wp2_with (first
              | (at_builtin; refine wpList_append_rb rfl (.tmp 33) (.tmp 35) rfl rfl rfl hown3 hrb (by omega) hwq3 ?_; intro A5 c5 w5 hown5 ho5 hbk5))
            obtain ⟨hout5, hd5⟩ := out_after_app HOUT3.out HD3.out ho5 hbk5 (fun k hk => (hown3.lt k hk).1)
            have HB5 := Lib.hid (HB3.out.trans (ho5.below HB3.out.size (fun i hi e => by have := (hown3.lt i e).1; omega)))
            have HOUT5 := Lib.hid hout5
            have HOWN5 := Lib.hid hown5
            have HD5 := Lib.hid hd5
            clear hown3 hrb ho5 hbk5 hout5 hd5 hown5
            go_roundw
            case rel =>
              refine ⟨j + 1, A3, n3, c3', l ++ xp, sp, A5, n4 + xn, c5, wl ++ xp, by go_num, rfl, rfl, hjl, HOUT5.out, HOWN5.out, HD5.out, fun hsp => ?_, by rw [HSX.out]; show _ ≤ sumN (R.take j) + xn + _; omega, by rw [HSX.out]; show _ ≤ sumN (R.take j) + xn + _; omega, HB5.out⟩
              obtain ⟨q1, q2, q3⟩ := HINV.out hsp
              rw [HTK.out, enc_snoc, HE.out, q2, ← q1]
              refine ⟨rfl, rfl, fun y hy => ?_⟩
              rcases List.mem_append.1 hy with h | h
              · exact q3 y h
              · rw [List.mem_singleton.1 h]
                exact ⟨fun h3 => by have h4 : kd < 3 := h3; omega, fun h3 => by have h4 : kd = 3 := h3; exact absurd h4 hk3⟩
            case measure => simp [intOf]; omega
      · have htR : R.take j = R := List.take_of_length_le (by rw [HR.out.1]; omega)
        rw [htR] at HINV
        cases hsp : sp with
        | true =>
          subst hsp
          go_wp2_with fail
          refine (out_end_bad g (g + 1) A n c l wr HOUT.out).mono ?_
          rintro e w3 ⟨A3, n3, c3, rfl, hown3, hb3⟩
          obtain rfl : n3 = 0 := hown3.1.symm
          have hfin := HB.out.trans (hb3.mono HB.out.size)
          clear hown3 hb3
          go_wp2
          go_ret
          exact ⟨rfl, hfin⟩
        | false =>
          subst hsp
          obtain ⟨hl, hwl, hgood⟩ := HINV.out (by first | rfl | trivial)
          subst hwl
          have HL := Lib.hid hl
          have HGOOD := Lib.hid hgood
          have hnl : n ≤ 300000 := by omega
          have HWL : Hid (wl.length ≤ 300000) := by show _ ≤ _; rw [HOUT.out.2.1]; exact hnl
          clear hl hgood HINV htR
          go_wp2_with fail
          refine (out_end g (g + 1) A n c wl wr HOUT.out (by omega)).mono ?_
          rintro e w3 ⟨A3, n3, c3, rfl, hown3, hb3⟩
          obtain rfl : n3 = n := by rw [← hown3.1, HOUT.out.2.1]
          have HB3 := Lib.hid (HB.out.trans (hb3.mono HB.out.size))
          have kc1 := conv_rb hown3.read c3
          have kc2 := conv_rb (HOWN.out.read.below hb3) c4
          have hr3 := hown3.read
          have HR3 := Lib.hid hr3
          have hse : ((str wl).toList != (str wl).toList) = false := by simp
          clear hown3 hb3 hr3
          go_wp2_with fail
          refine (newIn A3 n3 c3 wl w3 HR3.out (by omega)).mono ?_
          rintro e w4 ⟨gi, rfl, hgi, hI4, hb4⟩
          have HB4 := Lib.hid (HB3.out.trans (hb4.mono HB3.out.size))
          have hgiw : w.heap.size ≤ gi := Nat.le_trans HB3.out.size hgi
          rw [HL.out] at hI4
          have HI4 := Lib.hid hI4
          clear kc1 kc2 hse hI4 hb4 hgi HR3 HOUT HOWN HD
          go_wp2_with fail
          go_loopw [125] (fun v wr => ∃ j : Nat, v = .int .i64 (j : Int) ∧ j ≤ len1 ∧ InS wr gi ⟨enc (R.drop j), false⟩ ∧ Below w.heap.size w wr) (fun v _ => len1 - (intOf v).toNat)
          case atStart => exact ⟨0, rfl, Nat.zero_le _, HI4.out, HB4.out⟩
          case round =>
            clear HI4
            obtain ⟨j, rfl, hj, hI, hB⟩ := hrel
            have HI := Lib.hid hI
            have HB := Lib.hid hB
            clear hI hB
            by_cases hjl : j < len1
            · have hjl' : (j : Int) < (len1 : Int) := by omega
              obtain ⟨ad, x, rfl, hx, c0, c1, c2, c3', ⟨hwk, hwv, hws⟩, hxc, -, -⟩ := (HR.out.below HB.out).at_ hjl
              have hxp := (HR.out.2.2 x (List.mem_of_getElem? hx)).2.2.2
              have hgx := HGOOD.out x (List.mem_of_getElem? hx)
              have hdr : enc (R.drop j) = encI x ++ enc (R.drop (j + 1)) := by
                have hjR : j < R.length := by rw [HR.out.1]; exact hjl
                rw [List.drop_eq_getElem_cons hjR]
                rw [List.getElem?_eq_getElem hjR] at hx
                rw [Option.some.inj hx]
                rfl
              have HDR := Lib.hid hdr
              have bk := bounds_u8 hwk
              have bv := bounds_i64 hwv
              have bs := bounds_i64 hws
              have HGX := Lib.hid hgx
              obtain ⟨kd, vv, sz, xA, xn, xc, xp⟩ := x
              simp only at c0 c1 c2 c3' bk bv bs hxc hxp
              have hxl := hxp.1
              have HXP := Lib.hid hxp
              have hwq := HB.out.size
              have hB2 : Below wr.heap.size wr (wr.alloc (.cells #[.int .u8 kd, .int .i64 vv, .int .i64 sz, .slice xA xn xc] 32)) := (Below.refl _ _).alloc (Nat.le_refl _) _
              have hblk : (wr.alloc (.cells #[.int .u8 kd, .int .i64 vv, .int .i64 sz, .slice xA xn xc] 32)).heap[wr.heap.size]? = some (.cells #[.int .u8 kd, .int .i64 vv, .int .i64 sz, .slice xA xn xc] 32 (0, 0)) := heap_alloc_new wr _
              have HB2 := Lib.hid (HB.out.trans (hB2.mono hwq))
              have HI2 := Lib.hid (HI.out.below hB2)
              have hgl : gi < wr.heap.size := by obtain ⟨_, _, _, h, _⟩ := HI.out; exact (Array.getElem?_eq_some_iff.1 h).1
              have HBLK := Lib.hid hblk
              rw [HDR.out] at HI2
              clear hx hxp hB2 hblk hdr hgx
              by_cases hk : kd < 3
              · have dk : decide (kd < 3) = true := by simp; omega
                obtain ⟨f1, f2, f3, f4⟩ := HGX.out.1 hk
                simp only at f1 f2 f3 f4
                obtain ⟨s, rfl⟩ := Int.eq_ofNat_of_zero_le (show 0 ≤ sz by omega)
                obtain ⟨X, rfl⟩ := Int.eq_ofNat_of_zero_le f3
                rw [Int.toNat_natCast] at f4
                have hX : X < 256 ^ s := by
                  have e : ((256 ^ s : Nat) : Int) = (256 : Int) ^ s := by simp
                  omega
                have HE : Hid (encI ⟨kd, (X : Int), (s : Int), xA, xn, xc, xp⟩ = beb X s) := by show _ = _; unfold encI; rw [if_pos hk]; rfl
                rw [HE.out] at HI2
                have hok : (InM.mk (beb X s ++ enc (R.drop (j + 1))) false).ok (sizeN (s : Int)) = true := by
                  unfold InM.ok sizeN
                  rw [if_pos ⟨f1, f2⟩]
                  simp [beb_length]
                  omega
                have hsN : sizeN (s : Int) = (s : Int) := by unfold sizeN; rw [if_pos ⟨f1, f2⟩]
                have hgot : Hid (num ((InM.mk (beb X s ++ enc (R.drop (j + 1))) false).got (sizeN (s : Int))) = X) := by
                  show _ = _
                  rw [good_got hok, hsN]
                  show num ((beb X s ++ _).take s) = X
                  rw [List.take_left' (beb_length _ _), num_beb s X hX]
                have hrest : Hid ((InM.mk (beb X s ++ enc (R.drop (j + 1))) false).rest (sizeN (s : Int)) = ⟨enc (R.drop (j + 1)), false⟩) := by
                  show _ = _
                  rw [good_rest hok, hsN]
                  show InM.mk ((beb X s ++ _).drop s) false = _
                  rw [List.drop_left' (beb_length _ _)]
                clear hok hsN hX f4
                go_wp2_with fail
                generalize wr.alloc (.cells #[.int .u8 kd, .int .i64 (X : Int), .int .i64 (s : Int), .slice xA xn xc] 32) = w2 at *
                have p1 : w2.drew.cell? ⟨wr.heap.size, 1, none⟩ = some (.int .i64 (X : Int)) := cell_of_row w2 _ 1 _ _ _ HBLK.out
                have p2 : w2.drew.cell? ⟨wr.heap.size, 2, none⟩ = some (.int .i64 (s : Int)) := cell_of_row w2 _ 2 _ _ _ HBLK.out
                have hI2d : InS w2.drew gi ⟨beb X s ++ enc (R.drop (j + 1)), false⟩ := HI2.out
                have HI2D := Lib.hid hI2d
                have HBLKD : Hid (w2.drew.heap[wr.heap.size]? = some (.cells #[.int .u8 kd, .int .i64 (X : Int), .int .i64 (s : Int), .slice xA xn xc] 32 (0, 0))) := HBLK.out
                have HB2D := Lib.hid (Below.drew HB2.out)
                clear hI2d
                go_region_held (fun w' => w'.cell? ⟨wr.heap.size, 1, none⟩ = some (.int .i64 (X : Int)) ∧ w'.cell? ⟨wr.heap.size, 2, none⟩ = some (.int .i64 (s : Int)))
                  (first | exact ⟨p1, p2⟩ | exact ⟨r1, r2⟩)
                  ((go_at_call 22; refine (in_n gi _ (s : Int) w2.drew HI2D.out).mono ?_; rintro e w5 ⟨rfl, hI5, hO5⟩; rw [hgot.out]; rw [hrest.out] at hI5; have b7 := hO5.heap HBLKD.out (by omega); have r1 := cell_of_row w5 wr.heap.size 1 _ _ _ b7; have r2 := cell_of_row w5 wr.heap.size 2 _ _ _ b7))
                have HI5 := Lib.hid hI5
                have HB5 := Lib.hid (HB2D.out.trans (hO5.below HB2D.out.size (fun q hq e => by omega)))
                clear hI5 hO5
                go_wp2_with fail
                go_roundw
                case rel => exact ⟨j + 1, by go_num, hjl, HI5.out, HB5.out⟩
                case measure => simp [intOf]; omega
              · have dk : decide (kd < 3) = false := by simp; omega
                by_cases hk3 : kd = 3
                · have dk3 : (kd == 3) = true := by simp; omega
                  have HE : Hid (encI ⟨kd, vv, sz, xA, xn, xc, xp⟩ = beb xp.length 2 ++ xp) := by show _ = _; unfold encI; rw [if_neg hk, if_pos hk3]
                  have hsm : xp.length ≤ 65535 := HGX.out.2 hk3
                  rw [HE.out, hxl, List.append_assoc] at HI2
                  rw [hxl] at hsm
                  have hok1 : (InM.mk (beb xn 2 ++ (xp ++ enc (R.drop (j + 1)))) false).ok 2 = true := by
                    unfold InM.ok; simp [beb_length]; omega
                  have hg1 : (InM.mk (beb xn 2 ++ (xp ++ enc (R.drop (j + 1)))) false).got 2 = beb xn 2 := by
                    rw [good_got hok1]; exact List.take_left' (beb_length _ _)
                  have hr1 : (InM.mk (beb xn 2 ++ (xp ++ enc (R.drop (j + 1)))) false).rest 2 = ⟨xp ++ enc (R.drop (j + 1)), false⟩ := by
                    rw [good_rest hok1]; show InM.mk ((beb xn 2 ++ _).drop 2) false = _; rw [List.drop_left' (beb_length _ _)]
                  have hnm : num (beb xn 2) = xn := num_beb 2 xn (by omega)
                  have hok2 : (InM.mk (xp ++ enc (R.drop (j + 1))) false).ok (xn : Int) = true := by
                    unfold InM.ok; simp [hxl]; omega
                  have hg2 : (InM.mk (xp ++ enc (R.drop (j + 1))) false).got (xn : Int) = xp := by
                    rw [good_got hok2]; exact List.take_left' hxl
                  have hr2 : (InM.mk (xp ++ enc (R.drop (j + 1))) false).rest (xn : Int) = ⟨enc (R.drop (j + 1)), false⟩ := by
                    rw [good_rest hok2]; show InM.mk ((xp ++ _).drop xn) false = _; rw [List.drop_left' hxl]
                  have HTX : Hid (∀ (w' : World) (e : Ending) (w'' : World), TextGot w' gi ⟨beb xn 2 ++ (xp ++ enc (R.drop (j + 1))), false⟩ e w'' → e = .returned (.string (str xp)) ∧ InS w'' gi ⟨enc (R.drop (j + 1)), false⟩ ∧ Only (fun k => k = gi) w' w'') := fun w' e w'' h => by
                    obtain ⟨h1, h2, h3⟩ := h
                    rw [hg1, hr1, hnm] at h1 h2
                    rw [hg2] at h1
                    rw [hr2] at h2
                    exact ⟨h1, h2, h3⟩
                  clear hok1 hg1 hr1 hnm hok2 hg2 hr2
                  subst hk3
                  go_wp2_with fail
                  generalize wr.alloc (.cells #[.int .u8 3, .int .i64 vv, .int .i64 sz, .slice xA xn xc] 32) = w2 at *
                  have p1 : w2.drew.cell? ⟨wr.heap.size, 3, none⟩ = some (.slice xA xn xc) := cell_of_row w2 _ 3 _ _ _ HBLK.out
                  have HB2D := Lib.hid (Below.drew HB2.out)
                  have p2 := conv_rb (HXP.out.below HB2D.out) xc
                  have HI2D : Hid (InS w2.drew gi ⟨beb xn 2 ++ (xp ++ enc (R.drop (j + 1))), false⟩) := Lib.hid (show InS w2.drew gi ⟨beb xn 2 ++ (xp ++ enc (R.drop (j + 1))), false⟩ from HI2.out)
                  have HBLKD : Hid (w2.drew.heap[wr.heap.size]? = some (.cells #[.int .u8 3, .int .i64 vv, .int .i64 sz, .slice xA xn xc] 32 (0, 0))) := HBLK.out
                  go_region_held (fun w' => w'.cell? ⟨wr.heap.size, 3, none⟩ = some (.slice xA xn xc) ∧ (convert 22 9 (.slice xA xn xc)).run Try.prog w' = .ok (.string (str xp)) w')
                    (first | exact ⟨p1, p2⟩ | exact ⟨r1, r2⟩)
                    ((go_at_call 34; refine (in_text gi _ w2.drew HI2D.out).mono ?_; intro e w5 htg; obtain ⟨rfl, hI5, hO5⟩ := HTX.out _ _ _ htg; have b7 := hO5.heap HBLKD.out (by omega); have r1 := cell_of_row w5 wr.heap.size 3 _ _ _ b7; have r2 := conv_rb (HXP.out.below (HB2D.out.trans (hO5.below HB2D.out.size (fun q hq e => by omega)))) xc))
                  have HI5 := Lib.hid hI5
                  have HB5 := Lib.hid (HB2D.out.trans (hO5.below HB2D.out.size (fun q hq e => by omega)))
                  clear hI5 hO5
                  go_wp2_with fail
                  go_roundw
                  case rel => exact ⟨j + 1, by go_num, hjl, HI5.out, HB5.out⟩
                  case measure => simp [intOf]; omega
                · have dk3 : (kd == 3) = false := by simp; omega
                  have HE : Hid (encI ⟨kd, vv, sz, xA, xn, xc, xp⟩ = xp) := by show _ = _; unfold encI; rw [if_neg hk, if_neg hk3]
                  rw [HE.out] at HI2
                  have hen : Hid ((xp ++ enc (R.drop (j + 1))).length ≤ 500000) := by
                    show _ ≤ _
                    have h1 := HWL.out
                    have h2 : enc R = enc (R.take j) ++ enc (R.drop j) := by
                      conv => lhs; rw [← List.take_append_drop j R]
                      unfold enc
                      rw [List.flatMap_append]
                    rw [HL.out, h2, HDR.out, HE.out, List.length_append] at h1
                    omega
                  have hok2 : (InM.mk (xp ++ enc (R.drop (j + 1))) false).ok (xn : Int) = true := by
                    unfold InM.ok; simp [hxl]; omega
                  have hg2 : Hid ((InM.mk (xp ++ enc (R.drop (j + 1))) false).got (xn : Int) = xp) := by
                    show _ = _
                    rw [good_got hok2]; exact List.take_left' hxl
                  have hr2 : Hid ((InM.mk (xp ++ enc (R.drop (j + 1))) false).rest (xn : Int) = ⟨enc (R.drop (j + 1)), false⟩) := by
                    show _ = _
                    rw [good_rest hok2]; show InM.mk ((xp ++ _).drop xn) false = _; rw [List.drop_left' hxl]
                  clear hok2
                  go_wp2_with fail
                  generalize wr.alloc (.cells #[.int .u8 kd, .int .i64 vv, .int .i64 sz, .slice xA xn xc] 32) = w2 at *
                  have p1 : w2.drew.cell? ⟨wr.heap.size, 3, none⟩ = some (.slice xA xn xc) := cell_of_row w2 _ 3 _ _ _ HBLK.out
                  have HB2D := Lib.hid (Below.drew HB2.out)
                  have p2 := conv_rb (HXP.out.below HB2D.out) xc
                  have HI2D : Hid (InS w2.drew gi ⟨xp ++ enc (R.drop (j + 1)), false⟩) := Lib.hid (show InS w2.drew gi ⟨xp ++ enc (R.drop (j + 1)), false⟩ from HI2.out)
                  have HBLKD : Hid (w2.drew.heap[wr.heap.size]? = some (.cells #[.int .u8 kd, .int .i64 vv, .int .i64 sz, .slice xA xn xc] 32 (0, 0))) := HBLK.out
                  go_region_held (fun w' => w'.cell? ⟨wr.heap.size, 3, none⟩ = some (.slice xA xn xc) ∧ (convert 22 9 (.slice xA xn xc)).run Try.prog w' = .ok (.string (str xp)) w')
                    (first | exact ⟨p1, p2⟩ | exact ⟨r1, r2⟩)
                    ((go_at_call 24; refine (in_raw gi _ (xn : Int) w2.drew HI2D.out hen.out).mono ?_; rintro e w5 ⟨Ar_, mr, cr, rfl, hmc, hRr, hI5, hO5⟩; rw [hg2.out] at hRr; rw [hr2.out] at hI5; have r0 := conv_rb hRr cr; have b7 := hO5.heap HBLKD.out (by omega); have r1 := cell_of_row w5 wr.heap.size 3 _ _ _ b7; have r2 := conv_rb (HXP.out.below (HB2D.out.trans (hO5.below HB2D.out.size (fun q hq e => by omega)))) xc))
                  have HI5 := Lib.hid hI5
                  have HB5 := Lib.hid (HB2D.out.trans (hO5.below HB2D.out.size (fun q hq e => by omega)))
                  clear hI5 hO5
                  go_wp2_with fail
                  go_roundw
                  case rel => exact ⟨j + 1, by go_num, hjl, HI5.out, HB5.out⟩
                  case measure => simp [intOf]; omega
            · have hdn : R.drop j = [] := List.drop_eq_nil_of_le (by rw [HR.out.1]; omega)
              rw [hdn] at HI
              have hdone : InM.done ⟨enc [], false⟩ = true := rfl
              go_wp2_with fail
              refine (in_done gi _ _ HI.out).mono ?_
              rintro e w' ⟨rfl, rfl⟩
              rw [hdone]
              go_wp2_with fail
              refine (in_bad gi _ _ HI.out).mono ?_
              rintro e w' ⟨rfl, rfl⟩
              go_wp2
              go_ret
              exact ⟨rfl, HB.out⟩
end Go.Proofs.Ytinndlofnpkfhaa
