/-
  Package index: GetTree of a page that PutTree wrote.
-/
import Derived.Test.YtlhaempecidohaaGreatDoorJbh
set_option linter.unusedSimpArgs false
set_option linter.unusedVariables false
namespace Go.Proofs.YtlhaempecidohaaGreatDoor
open Go.RowKit
/-- what GetTree hands back -/
def GotT (w : World) (l : List PlaceS) (e : Ending) (w' : World) : Prop :=
  ∃ A m c, e = .returned (.tuple #[.slice A m c, .int .i64 0]) ∧ RowO w' w.heap.size 113 2 A m c (l.map placeV) ∧ Below w.heap.size w w'
set_option maxRecDepth 8000 in
set_option maxHeartbeats 3000000 in
theorem getTree_any (l : List PlaceS) (A : Option Addr) (n c : Nat) (w : World) (hr : RB w A n (treeB l)) (hnc : n ≤ c) (hl : TreeOK l) (hE : Env w) :
    Calls Tryz.prog 56 #[.slice A n c] w (GotT w l) := by
  have hpl := treeP_len hl
  have hbl : (treeB l).length ≤ 1100 := by unfold treeB; rw [page_length]; omega
  have hn : n ≤ 100000 := by rw [← hr.1]; omega
  have h16 := hl.len
  have hG := get_ok 3 A n c (treeB l) w hr hnc hn (page_isPage 3 _ (by omega) (by omega) (by omega))
  have hpay : payload (treeB l) = treeP l := payload_page 3 _
  rw [hpay] at hG
  have hpp : treeP l = beb l.length 1 ++ l.flatMap placeB := rfl
  rw [hpp] at hG hpl
  have HR := Lib.hid hr
  have HL := Lib.hid hl
  have HE := Lib.hid hE
  have HG := Lib.hid hG
  have HPL := Lib.hid hpl
  clear hr hl hE hG hpp hpl hbl hpay
  go_enter Tryz.func56, Tryz.ntmps56
  go_wp2_with fail
  refine HG.out.mono ?_
  rintro e w2 ⟨A2, n2, c2, rfl, hown, hb2⟩
  have hI := newIn A2 n2 c2 _ w2 hown.read (by rw [← hown.read.1]; have := HPL.out; omega)
  have HI := Lib.hid hI
  have HB2 := Lib.hid hb2
  clear hown hb2 hI HG
  go_wp2_with fail
  refine HI.out.mono ?_
  rintro e w3 ⟨g6, rfl, hg6, -, hb3, hi3⟩
  have hi3 := hi3.mono (K' := fun q => q < g6) (fun _ h => h.2)
  have hb3 := HB2.out.trans (hb3.mono HB2.out.size)
  have hgw : w.heap.size ≤ g6 := by have := HB2.out.size; omega
  have HB3 := Lib.hid hb3
  clear hb3 HI
  go_wp2_with fail
  refine (in_num g6 l.length 1 _ w3 hi3 (by omega) (by omega) (by omega)).mono ?_
  rintro e w4 ⟨rfl, hi4, ho4⟩
  have HI4 := Lib.hid hi4
  have HB4 : Hid (Below w.heap.size w w4) := HB3.out.trans (ho4.below HB3.out.size (fun b hb e => by omega))
  clear hi3 hi4 ho4 HB3
  obtain ⟨N, hN⟩ : ∃ N, l.length = N := ⟨_, rfl⟩
  rw [hN] at h16 ⊢
  have HN := Lib.hid hN
  clear hN
  go_wp2_with fail
  go_loopw [7, 22] (fun v7 v22 wr => ∃ (i : Nat) (A' : Option Addr) (c' : Nat), i ≤ N ∧ v7 = .slice A' i c' ∧ v22 = .int .i64 (i : Int) ∧ InP (fun q => q < g6) wr g6 ⟨(l.drop i).flatMap placeB, false⟩ ∧ RowO wr (g6 + 1) 113 2 A' i c' ((l.take i).map placeV) ∧ Below w.heap.size w wr) (fun _ v22 _ => N - (intOf v22).toNat)
  case atStart => exact ⟨0, none, 0, Nat.zero_le _, rfl, rfl, HI4.out, RowO.nil _ _ _ _, HB4.out⟩
  case round =>
    obtain ⟨i, A', c', hi, rfl, rfl, hin, hrow, hb⟩ := hrel
    have HIN := Lib.hid hin
    have HROW := Lib.hid hrow
    have HB := Lib.hid hb
    clear hin hrow hb
    by_cases hlt : i < N
    · obtain ⟨p, hp⟩ : ∃ p, l[i]? = some p := ⟨_, List.getElem?_eq_getElem (by rw [HN.out]; exact hlt)⟩
      obtain ⟨hil, hie⟩ := List.getElem?_eq_some_iff.1 hp
      have hp16 := HL.out.few p (List.mem_of_getElem? hp)
      have hps := named_size (HL.out.nm p (List.mem_of_getElem? hp))
      obtain ⟨u, s⟩ := p
      dsimp only at hp16 hps
      have hdr : (l.drop i).flatMap placeB = beb u 1 ++ (textB s ++ (l.drop (i + 1)).flatMap placeB) := by
        rw [List.drop_eq_getElem_cons hil, List.flatMap_cons, hie]
        unfold placeB
        rw [List.append_assoc]
      have htk : l.take (i + 1) = l.take i ++ [(u, s)] := by
        rw [List.take_succ_eq_append_getElem hil, hie]
      have hin := HIN.out
      rw [hdr] at hin
      have HIN' := Lib.hid hin
      have HTK := Lib.hid htk
      clear hp hil hie hdr htk hin HIN
      go_wp2_with fail
      refine (in_num g6 u 1 _ wr HIN'.out (by omega) (by omega) (by omega)).mono ?_
      rintro e v1 ⟨rfl, hi1, ho1⟩
      have HI1 := Lib.hid hi1
      have HO1 := Lib.hid ho1
      clear hi1 ho1
      go_wp2_with fail
      refine (in_txt g6 s _ v1 HI1.out (by omega)).mono ?_
      rintro e v2 ⟨rfl, hi2, ho2⟩
      have ho2 := HO1.out.trans ho2 (fun _ _ h => h)
      have HI2 := Lib.hid hi2
      have HO2 := Lib.hid ho2
      have hlt6 := hi2.lt
      have HRW2 := Lib.hid (HROW.out.only ho2 (fun q hq e => by have := (HROW.out.lt q hq).1; omega))
      clear hi2 ho2
      go_wp2_with (at_builtin; refine wp_append_row rfl (.tmp 24) (.tmp 30) 108 113 2 _ 24 und108 inf113 rfl (by decide) (by decide) rfl rfl rfl (HRW2.out.below ((Below.refl _ _).alloc (Nat.le_refl _) _)) (range_new v2 (placeV (u, s)) 113) rfl (by simp [placeV, Value.oneCell']) (by omega) (by simp; omega) ?_; intro A5 c5 w5 hro5 ho5 hbk5; have HRO5 := Lib.hid hro5; have HO5 := Lib.hid ho5; have hb4 := (Below.refl v2.heap.size v2).alloc (Nat.le_refl _) (.cells (placeV (u, s)).toArray 113); have HB4' := Lib.hid hb4; clear hro5 ho5 hbk5 hb4)
      have hrl := HRW2.out.lt
      have hin5 := (HI2.out.below HB4'.out).only HO5.out (fun e => by have := (hrl _ e).1; omega) (fun q hq e => by have := (hrl _ e).1; omega)
      have hz1 : w.heap.size ≤ v2.heap.size := Nat.le_trans HB.out.size HO2.out.size
      refine ⟨⟨i + 1, A5, c5, hlt, rfl, by first | rfl | (congr 1), hin5, by rw [HTK.out, List.map_append]; exact HRO5.out, ?_⟩, by simp [intOf]; omega⟩
      exact HB.out.trans ((HO2.out.below HB.out.size (fun b hb e => by omega)).trans ((HB4'.out.mono hz1).trans (HO5.out.below (Nat.le_trans hz1 HB4'.out.size) (fun b hb e => by have := (hrl b e).1; omega))))
    · obtain rfl : i = N := by omega
      have hrow := HROW.out
      rw [List.take_of_length_le (by rw [HN.out]; exact Nat.le_refl _)] at hrow
      have hp := putTree_any l A' i c' wr hrow.read hrow.le HL.out (HE.out.below HB.out)
      have HRW := Lib.hid hrow
      have HPP := Lib.hid hp
      clear hrow hp HROW
      go_wp2_with fail
      refine HPP.out.mono ?_
      rintro e v3 ⟨A3, n3, c3, rfl, hown, hb3⟩
      have hbw3 := HB.out.trans (hb3.mono HB.out.size)
      have hrb3 := HR.out.below hbw3
      have hs := same_any A3 A n3 c3 n c _ _ v3 hown.read hrb3
      rw [decide_eq_true rfl] at hs
      have HS := Lib.hid hs
      have HBW3 := Lib.hid hbw3
      have HRW3 := Lib.hid ((HRW.out.below hb3).more (B := w.heap.size) (fun q hq => by have := (HRW.out.lt q hq).1; omega))
      clear hown hb3 hbw3 hrb3 hs
      go_wp2_with fail
      refine HS.out.mono ?_
      rintro e v4 ⟨rfl, rfl⟩
      go_wp2_with fail
      go_ret2
      exact ⟨A', i, c', rfl, HRW3.out, HBW3.out⟩
end Go.Proofs.YtlhaempecidohaaGreatDoor
