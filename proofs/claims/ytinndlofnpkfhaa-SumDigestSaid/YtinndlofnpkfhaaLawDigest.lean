/-
  The walk of the law SumDigest.
-/
import Derived.Test.YtinndlofnpkfhaaAwake
import Derived.Test.YtinndlofnpkfhaaEq
import Derived.Test.YtinndlofnpkfhaaRDig
import Derived.BigQuiet
import Derived.Deep.QuietTactic
import Derived.Deep.RegionHeld
namespace Go.Proofs.Ytinndlofnpkfhaa
open Go.RowKit

theorem Ar.range {w : World} {g : Nat} {k : IntKind} {T : TypeId} {l : List Nat} (h : Ar w g k T l) : w.rangeAt g 0 (mk k l).toList := fun j v hv => by
  rw [Nat.zero_add, cell_of_row w g j _ T (0, 0) h]
  simpa using hv

set_option linter.unusedSimpArgs false in
attribute [local irreducible] Calls in
set_option maxRecDepth 8000 in
set_option maxHeartbeats 2000000 in
theorem sumDigest_walk (a0 : Option Addr) (len0 cap0 : Nat) (z0 : List Int) (w : World) (w0 : IsRow .u8 w a0 len0 cap0 z0) :
    Calls Try.prog 10 #[.slice a0 len0 cap0] w fun e w' => e = .returned (.bool true) ∧ Below w.heap.size w w' := by
  have hr := RB.of_row w0
  obtain ⟨l, hl⟩ : ∃ l, l = nats (z0.take len0) := ⟨_, rfl⟩
  rw [← hl] at hr
  clear hl w0
  by_cases hn : 20000 < len0
  · clear hr
    go_enter Try.func10, Try.ntmps10
    go_wp2_with fail
    refine (awake02 _).mono ?_
    rintro e w1 ⟨rfl, hb1⟩
    go_wp2_with fail
    refine (awake02 _).mono ?_
    rintro e w2 ⟨rfl, hb2⟩
    go_wp2
    go_ret
    exact ⟨rfl, hb1.trans (hb2.mono hb1.size)⟩
  · have hd20 : decide (20000 < (len0 : Int)) = false := by simp; omega
    go_enter Try.func10, Try.ntmps10
    go_wp2_with fail
    refine (awake02 _).mono ?_
    rintro e w1 ⟨rfl, hb1⟩
    have hr1 := hr.below hb1
    clear hr
    go_wp2_with fail
    refine (digest_any _ _ _ l _ hr1 (by omega)).mono ?_
    rintro e w2 ⟨rfl, hb2⟩
    have hb12 := hb1.trans (hb2.mono hb1.size)
    have hr2 := hr1.below hb2
    obtain ⟨D, hD⟩ : ∃ D, D = Sha.digest l := ⟨_, rfl⟩
    have hDl : D.length = 32 := by rw [hD]; exact Sha.digest_len l
    have hDlt : ∀ x ∈ D, x < 256 := by rw [hD]; exact Sha.digest_lt l
    rw [← hD]
    obtain ⟨z, hz⟩ : ∃ z, z = List.replicate 32 0 := ⟨_, rfl⟩
    have hzl : z.length = 32 := by rw [hz]; simp
    obtain ⟨w3, hw3, hs3, hb3, hA3⟩ := lay w2 .u8 58 z
    obtain ⟨w4, hw4, hs4, hb4, hA4, ho4⟩ := putrow D hA3
    have HZ := Lib.hid hz
    have HW3 := Lib.hid hw3
    have HW4 := Lib.hid hw4
    have HD := Lib.hid hD
    have HA3 := Lib.hid hA3
    have HA4 := Lib.hid hA4
    have HDL := Lib.hid hDl
    have HDLT := Lib.hid hDlt
    have HR4 := Lib.hid (hr2.below (hb3.trans hb4))
    have HB4 := Lib.hid ((hb12.trans (hb3.mono hb12.size)).trans (hb4.mono hb12.size))
    have e1 : Hid ((Try.prog.info? 58).map (·.size) = some z.length) := by show _ = _; rw [hzl]; exact s58
    have e2 : Hid (z.length = D.length) := by show _ = _; rw [hzl, hDl]
    have e3 : Hid ((Try.prog.info? 58).map (·.size) = some D.length) := by show _ = _; rw [hDl]; exact s58
    have HQ := Lib.hid hb12.size
    clear hb1 hr1 hb2 hb12 hr2 hD hDl hDlt hz hzl hw3 hs3 hb3 hA3 hw4 hs4 hb4 hA4 ho4
    go_wp2_with (first
      | (refine wpList_alloc_ar rfl 58 rfl .u8 32 z58 ?_; rw [← HZ.out, ← HW3.out])
      | (refine wpList_store_ar rfl 58 _ _ rfl rfl w2.heap.size rfl .u8 z D rfl HA3.out e1.out e2.out ?_; rw [← HW4.out]))
    go_loopw [16, 4] (fun v v4 wr => ∃ i : Nat, i ≤ 32 ∧ v = .int .i64 (i : Int) ∧ v4 = .string (str (hex (D.take i))) ∧ wr.heap = w4.heap ∧ Below w.heap.size w wr) (fun v _ _ => 32 - (intOf v).toNat)
    case atStart => exact ⟨0, by decide, rfl, rfl, rfl, HB4.out⟩
    case round =>
      obtain ⟨i, hi, rfl, rfl, hh, hB⟩ := hrel
      by_cases hlt : i < 32
      · have hi32 : (i : Int) < 32 := by omega
        have hA := HA4.out.heap hh
        have hc := hA.cellD (i := i) (by rw [HDL.out]; exact hlt)
        have hxl : D.getD i 0 < 256 := Sha.getD_lt HDLT.out i
        have hsnoc : hex (D.take (i + 1)) = hex (D.take i) ++ [dig16 (D.getD i 0 / 16), dig16 (D.getD i 0 % 16)] := by
          rw [← hex_snoc, List.take_add_one, List.getElem?_eq_getElem (by rw [HDL.out]; omega), List.getD_eq_getElem?_getD, List.getElem?_eq_getElem (by rw [HDL.out]; omega)]; rfl
        generalize D.getD i 0 = x at *
        obtain ⟨p, hp⟩ : ∃ p, p = x / 16 := ⟨_, rfl⟩
        obtain ⟨q, hq⟩ : ∃ q, q = x % 16 := ⟨_, rfl⟩
        rw [← hp, ← hq] at hsnoc
        have hp1 : (x : Int) / 16 = (p : Int) := by omega
        have hq1 : (x : Int) % 16 = (q : Int) := by omega
        have hwp : IntKind.u8.wrap ((p : Int) + 1) = (p : Int) + 1 := by rw [IntKind.wrap_u8]; omega
        have hwq : IntKind.u8.wrap ((q : Int) + 1) = (q : Int) + 1 := by rw [IntKind.wrap_u8]; omega
        have hwp0 : IntKind.u8.wrap (p : Int) = (p : Int) := by rw [IntKind.wrap_u8]; omega
        have hwq0 : IntKind.u8.wrap (q : Int) = (q : Int) := by rw [IntKind.wrap_u8]; omega
        have hc1 := cut16 p (by omega)
        have hc2 := cut16 q (by omega)
        have HS := Lib.hid hsnoc
        have HH := Lib.hid hh
        have HB := Lib.hid hB
        have hlen0 : (hex (D.take i)).length ≤ 64 := by rw [hex_len, List.length_take, HDL.out]; omega
        have ht1 : ∀ w, (Op.stringOp .add (str (hex (D.take i))) (str [dig16 p])).run Try.prog w = .ok (.string (str (hex (D.take i) ++ [dig16 p]))) w := fun w => by
          rw [run_string_add w _ _ (by rw [str_size]; omega) (by rw [str_size]; simp), str_append]
        have ht2 : ∀ w, (Op.stringOp .add (str (hex (D.take i) ++ [dig16 p])) (str [dig16 q])).run Try.prog w = .ok (.string (str (hex (D.take i) ++ [dig16 p, dig16 q]))) w := fun w => by
          rw [run_string_add w _ _ (by rw [str_size]; simp; omega) (by rw [str_size]; simp), str_append]; simp
        generalize dig16 p = y1 at *
        generalize dig16 q = y2 at *
        clear hp hq hsnoc hh hB hA hlen0
        go_wp2_with fail
        go_quiet (fail)
        have HB5 := Lib.hid (Below.dn HB.out nq)
        have HH5 : Hid ((wr.drewN nq).heap = w4.heap) := HH.out
        generalize wr.drewN nq = w5 at *
        go_wp2_with fail
        go_roundw
        case rel =>
          refine ⟨i + 1, hlt, by go_num, ?_, HH5.out, HB5.out⟩
          rw [HS.out]
        case measure => simp [intOf]; omega
      · have ht : D.take i = D := List.take_of_length_le (by rw [HDL.out]; omega)
        rw [ht]
        have hA := HA4.out.heap hh
        have hR : RB wr a0 len0 l := HR4.out.below ⟨hB.os ▸ HB4.out.os ▸ rfl, by rw [hB.tape, HB4.out.tape], by rw [hB.output, HB4.out.output], by rw [hh]; exact Nat.le_refl _, fun k _ => by rw [hh]⟩
        obtain ⟨C, hC⟩ : ∃ C : List Value, mk .u8 D = C.toArray := ⟨_, rfl⟩
        have heq := eql58 D HDL.out
        have hhex := fun w => hex_any D HDL.out HDLT.out w
        have hdig := fun w (h : RB w a0 len0 l) => rdigest_any a0 len0 cap0 l w h (by omega)
        have hrange := fun (w : World) (h : Ar w w2.heap.size .u8 58 D) => h.range
        have hone : ∀ v ∈ (mk .u8 D).toList, v.oneCell' = true := by simp [mk, Value.oneCell']
        have hlen : (mk .u8 D).size = 32 := by rw [mk_size]; exact HDL.out
        simp only [← HD.out] at hdig
        simp only [hC] at heq hhex hdig hrange hone hlen
        simp only [List.size_toArray] at hlen hrange hone
        have hsz : (Try.prog.info? 58).map (·.size) = some C.length := by rw [hlen]; exact s58
        have hu58 := y58
        have HHEX := Lib.hid hhex
        have HDIG := Lib.hid hdig
        have HRNG := Lib.hid hrange
        have hr1 := hrange _ hA
        have HR := Lib.hid hR
        have HA := Lib.hid hA
        have HB := Lib.hid hB
        have hwq := HB.out.size
        clear hR hA hB hh ht hC hhex hdig hrange
        go_wp2_with fail
        refine wp_region_held_drew (S := fun w' => w'.rangeAt w2.heap.size 0 C) (by kernel_rfl) hr1 (fun hHeld => ?_)
        refine wpAnyH_take (i := 0) (v := .agg C.toArray) rfl (by kernel_rfl) (by kernel_rfl) (by kernel_rfl) (fun _ _ _ h => h) (yieldsIf_load_mid (by rfl) 58 (.tmp 3) rfl w2.heap.size 0 rfl C _ (fun _ h => h) hu58 rfl hsz) (by assumption) ?_
        simp only [List.getElem_toArray, List.getElem_cons_succ, List.getElem_cons_zero, Act.put, List.setIfInBounds_toArray, List.set_cons_zero, List.set_cons_succ]
        refine wpAnyH_take (i := 1) (v := ?_) rfl (by kernel_rfl) (by kernel_rfl) (by kernel_rfl) (fun _ _ _ h => h) (Or.inl ⟨by rfl, ?_⟩) (by assumption) ?_
        rotate_left 1
        · intro w hSw
          go_simp
          try with_reducible rfl
        simp only [List.getElem_toArray, List.getElem_cons_succ, List.getElem_cons_zero, Act.put, List.setIfInBounds_toArray, List.set_cons_zero, List.set_cons_succ]
        refine wpAnyH_ready (rs := [2]) (by kernel_rfl) (by simp) ?_
        refine AllReadyH.cons rfl (fun K hK => ?_) AllReadyH.nil
        go_simp
        go_at_call 40
        refine (HDIG.out wr.drew HR.out).mono ?_
        rintro e w6 ⟨rfl, hb6⟩
        have hA6 := Ar.below (w := wr.drew) HA.out hb6
        go_wp2_with fail
        clear hHeld
        refine hK.out _ _ (HRNG.out _ hA6) (fun hHeld => ?_)
        clear hK K
        refine wpAnyH_take (i := 3) (v := ?_) rfl (by kernel_rfl) (by kernel_rfl) (by kernel_rfl) (fun _ _ _ h => h) (Or.inl ⟨by rfl, ?_⟩) (by assumption) ?_
        rotate_left 1
        · intro w hSw
          go_simp
          try with_reducible rfl
        simp only [List.getElem_toArray, List.getElem_cons_succ, List.getElem_cons_zero, Act.put, List.setIfInBounds_toArray, List.set_cons_zero, List.set_cons_succ]
        refine wpAnyH_take (i := 4) (v := ?_) rfl (by kernel_rfl) (by kernel_rfl) (by kernel_rfl) (fun _ _ _ h => h) (Or.inl ⟨by rfl, ?_⟩) (by assumption) ?_
        rotate_left 1
        · intro w hSw
          go_simp
          try with_reducible rfl
        simp only [List.getElem_toArray, List.getElem_cons_succ, List.getElem_cons_zero, Act.put, List.setIfInBounds_toArray, List.set_cons_zero, List.set_cons_succ]
        refine wpAnyH_take (i := 5) (v := .agg C.toArray) rfl (by kernel_rfl) (by kernel_rfl) (by kernel_rfl) (fun _ _ _ h => h) (yieldsIf_load_mid (by rfl) 58 (.tmp 3) rfl w2.heap.size 0 rfl C _ (fun _ h => h) hu58 rfl hsz) (by assumption) ?_
        simp only [List.getElem_toArray, List.getElem_cons_succ, List.getElem_cons_zero, Act.put, List.setIfInBounds_toArray, List.set_cons_zero, List.set_cons_succ]
        refine wpAnyH_take (i := 7) (v := ?_) rfl (by kernel_rfl) (by kernel_rfl) (by kernel_rfl) (fun _ _ _ h => h) (Or.inl ⟨by rfl, ?_⟩) (by assumption) ?_
        rotate_left 1
        · intro w hSw
          go_simp
          try with_reducible rfl
        simp only [List.getElem_toArray, List.getElem_cons_succ, List.getElem_cons_zero, Act.put, List.setIfInBounds_toArray, List.set_cons_zero, List.set_cons_succ]
        refine wpAnyH_ready (rs := [6]) (by kernel_rfl) (by simp) ?_
        refine AllReadyH.cons rfl (fun K hK => ?_) AllReadyH.nil
        go_simp
        go_at_call 41
        refine (HHEX.out w6).mono ?_
        rintro e w7 ⟨rfl, hb7⟩
        go_wp2_with fail
        clear hHeld
        refine hK.out _ _ (HRNG.out _ (hA6.below hb7)) (fun hHeld => ?_)
        clear hK K
        refine wpAnyH_take (i := 8) (v := ?_) rfl (by kernel_rfl) (by kernel_rfl) (by kernel_rfl) (fun _ _ _ h => h) (Or.inl ⟨by rfl, ?_⟩) (by assumption) ?_
        rotate_left 1
        · intro w hSw
          go_simp
          try with_reducible rfl
        simp only [List.getElem_toArray, List.getElem_cons_succ, List.getElem_cons_zero, Act.put, List.setIfInBounds_toArray, List.set_cons_zero, List.set_cons_succ]
        refine wpAnyH_take (i := 9) (v := ?_) rfl (by kernel_rfl) (by kernel_rfl) (by kernel_rfl) (fun _ _ _ h => h) (Or.inl ⟨by rfl, ?_⟩) (by assumption) ?_
        rotate_left 1
        · intro w hSw
          go_simp
          try with_reducible rfl
        simp only [List.getElem_toArray, List.getElem_cons_succ, List.getElem_cons_zero, Act.put, List.setIfInBounds_toArray, List.set_cons_zero, List.set_cons_succ]
        refine wpAnyH_take (i := 10) (v := ?_) rfl (by kernel_rfl) (by kernel_rfl) (by kernel_rfl) (fun _ _ _ h => h) (Or.inl ⟨by rfl, ?_⟩) (by assumption) ?_
        rotate_left 1
        · intro w hSw
          go_simp
          try with_reducible rfl
        simp only [List.getElem_toArray, List.getElem_cons_succ, List.getElem_cons_zero, Act.put, List.setIfInBounds_toArray, List.set_cons_zero, List.set_cons_succ]
        refine wpAnyH_done (by kernel_rfl) ?_ _
        have hfin := ((Below.drew HB.out).trans (hb6.mono hwq)).trans (hb7.mono (Nat.le_trans hwq hb6.size))
        clear hr1 hA6 hHeld hb6 hb7
        go_wp2
        go_ret
        exact ⟨by simp, hfin⟩
end Go.Proofs.Ytinndlofnpkfhaa
