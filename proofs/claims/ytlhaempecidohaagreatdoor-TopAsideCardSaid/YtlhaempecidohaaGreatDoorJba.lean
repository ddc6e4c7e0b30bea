/-
  Package body: Encode, Frame. Package body: Decode of what Encode wrote.
-/
import Derived.Test.YtlhaempecidohaaGreatDoorJax
import Derived.Test.YtlhaempecidohaaGreatDoorJat
import Derived.Test.YtlhaempecidohaaGreatDoorJag
import Derived.Test.YtlhaempecidohaaGreatDoorJaj
import Derived.Test.YtlhaempecidohaaGreatDoorJaw
import Derived.Test.YtlhaempecidohaaGreatDoorJad
set_option linter.unusedSimpArgs false
set_option linter.unusedVariables false
namespace Go.Proofs.YtlhaempecidohaaGreatDoor
open Go.RowKit
theorem Ended.more {w0 w : World} {l : List Nat} {k : Int} {e : Ending} {w' : World} (hb : Below w0.heap.size w0 w) (h : Ended w l k e w') : Ended w0 l k e w' := by
  obtain ⟨A', n', c', rfl, hown, hb'⟩ := h
  exact ⟨A', n', c', rfl, Own.more (B := w0.heap.size) hown (fun j hj => Nat.le_trans hb.size (hown.lt j hj).1), hb.trans (hb'.mono hb.size)⟩
set_option maxHeartbeats 1000000 in
theorem encode_bad (x : Note) (A : Option Addr) (n c : Nat) (hf : formed x = false) (hn : n = x.msg.oct.length) (hlt : n ≤ 10000000) (hnm : x.name.size ≤ 1000000) (hd0 : -9223372036854775808 ≤ x.msg.date) (hd1 : x.msg.date ≤ 9223372036854775807) (w : World) (hE : Env w) :
    Calls Tryz.prog 154 #[noteV x (.slice A n c)] w (Ended w [] 1) := by
  have hb0 : Below w.heap.size w (w.alloc (.cells (noteCells x (.slice A n c)).toArray 134)) := (Below.refl _ _).alloc (Nat.le_refl _) _
  have hF := formed_any x A n c hn hlt hnm hd0 hd1 _ (hE.below hb0)
  rw [hf] at hF
  obtain ⟨kd, ep, nm, m⟩ := x
  obtain ⟨u, d, f, oc⟩ := m
  unfold noteV at hF ⊢
  unfold noteCells at hF hb0 ⊢
  unfold msgCells at hF hb0 ⊢
  dsimp only [List.cons_append, List.nil_append] at hF hb0 ⊢
  have HB := Lib.hid hb0
  clear hE hb0 hf hn hlt hnm hd0 hd1
  go_enter Tryz.func154, Tryz.ntmps154
  go_wp2_with fail
  refine hF.mono ?_
  rintro e w1 ⟨rfl, hb⟩
  have HB1 := Lib.hid (HB.out.trans (hb.mono HB.out.size))
  clear hb
  go_wp2_with fail
  go_ret2
  exact ⟨none, 0, 0, rfl, Own.nil _ _, HB1.out⟩
set_option maxRecDepth 8000 in
set_option maxHeartbeats 1000000 in
theorem encode_any (x : Note) (A : Option Addr) (n c : Nat) (hf : formed x = true) (hw : x.wf) (w : World) (hr : RB w A n x.msg.oct) (hE : Env w) :
    Calls Tryz.prog 154 #[noteV x (.slice A n c)] w (Ended w (encode x) 0) := by
  have hb0 : Below w.heap.size w (w.alloc (.cells (noteCells x (.slice A n c)).toArray 134)) := (Below.refl _ _).alloc (Nat.le_refl _) _
  have hC0 := NoteC.boxed w x (.slice A n c) 134
  have hlen := hr.1
  have hoct := formed_oct hf
  have hnm := formed_name hf
  have hk := formed_kind hf
  have hep := hw.epoch
  have hui := hw.msg.uid
  have hdt : 0 ≤ x.msg.date ∧ x.msg.date ≤ 253402300799 ∧ 0 ≤ x.msg.flags ∧ x.msg.flags ≤ 31 := by
    unfold formed at hf
    by_cases he : x.epoch < 1
    · rw [if_pos he] at hf; cases hf
    · rw [if_neg he] at hf
      unfold rightMsg bareMsg dated flagged at hf
      rcases hk with h | h | h
      · rw [if_pos h] at hf
        simp only [Bool.and_eq_true, decide_eq_true_eq] at hf
        omega
      · rw [if_neg (by omega), if_pos h] at hf
        simp only [Bool.and_eq_true, decide_eq_true_eq] at hf
        omega
      · rw [if_neg (by omega), if_neg (by omega)] at hf
        simp only [Bool.and_eq_true, decide_eq_true_eq] at hf
        omega
  have hF := formed_any x A n c hlen.symm (by omega) (by omega) (by omega) (by omega) _ (hE.below hb0)
  rw [hf] at hF
  have hr0 := hr.below hb0
  have hst : ∀ e w', Ended (w.alloc (.cells (noteCells x (.slice A n c)).toArray 134)) (encode x) 0 e w' → Ended w (encode x) 0 e w' := fun e w' h => h.more hb0
  have hsz := encode_length hf
  obtain ⟨q, hq⟩ : ∃ q, q = encode x := ⟨_, rfl⟩
  rw [← hq] at hst ⊢
  unfold encode textB at hq
  obtain ⟨kd, ep, nm, m⟩ := x
  obtain ⟨u, d, f, oc⟩ := m
  unfold noteV at hF ⊢
  unfold noteCells at hF hb0 hC0 hr0 hst ⊢
  unfold msgCells at hF hb0 hC0 hr0 hst ⊢
  dsimp only [List.cons_append, List.nil_append] at *
  clear hb0 hE hr hf hw hsz
  obtain ⟨d', rfl⟩ := Int.eq_ofNat_of_zero_le hdt.1
  obtain ⟨f', rfl⟩ := Int.eq_ofNat_of_zero_le hdt.2.2.1
  have hd' : d' < 256 ^ 6 := by omega
  have hf' : f' < 256 ^ 1 := by omega
  rw [Int.toNat_natCast, Int.toNat_natCast] at hq
  clear hdt
  have HQ := Lib.hid hq
  have HC := Lib.hid hC0
  have HR := Lib.hid hr0
  have HS := Lib.hid hst
  have hep' : ep < 256 ^ 4 := hep
  have hui' : u < 256 ^ 4 := hui
  clear hq hC0 hr0 hst hep hui
  have l4 : ∀ x, (beb x 4).length = 4 := fun x => beb_length x 4
  have l6 : ∀ x, (beb x 6).length = 6 := fun x => beb_length x 6
  have l1 : ∀ x, (beb x 1).length = 1 := fun x => beb_length x 1
  have l2 : ∀ x, (beb x 2).length = 2 := fun x => beb_length x 2
  have lN := ofStr_length nm
  rcases hk with hk | hk | hk
  · subst hk
    go_enter Tryz.func154, Tryz.ntmps154
    go_wp2_with fail
    refine hF.mono ?_
    rintro e w1 ⟨rfl, hb⟩
    have hO := OutW.made _ w1 hb
    obtain ⟨c0, c1, c2, c3, c4, c5, c6⟩ := HC.out.later hO.below
    have HO := Lib.hid hO
    clear hb hO hF
    go_wp2_with fail
    refine (HO.out.n ep 4 (by simp only [List.length_nil]; omega) (by omega) (by omega) hep').mono ?_
    rintro e w2 ⟨rfl, hO⟩
    obtain ⟨c0, c1, c2, c3, c4, c5, c6⟩ := HC.out.later hO.below
    have HO := Lib.hid hO
    clear hO
    go_wp2_with fail
    refine (HO.out.text nm (by omega) (by simp only [List.length_append, List.length_nil, l1, l2, l4, l6, lN]; omega)).mono ?_
    rintro e w3 ⟨rfl, hO⟩
    obtain ⟨c0, c1, c2, c3, c4, c5, c6⟩ := HC.out.later hO.below
    have HO := Lib.hid hO
    clear hO
    go_wp2_with fail
    refine (HO.out.raw A n c oc HR.out (by simp only [List.length_append, List.length_nil, l1, l2, l4, l6, lN]; omega)).mono ?_
    rintro e w4 ⟨rfl, hO⟩
    obtain ⟨c0, c1, c2, c3, c4, c5, c6⟩ := HC.out.later hO.below
    have HO := Lib.hid hO
    clear hO
    have HQF : q = _ := HQ.out
    
    go_wp2_with fail
    refine (HO.out.done (by simp only [List.length_append, List.length_nil, l1, l2, l4, l6, lN]; omega)).mono ?_
    rintro e w9 hO
    simp only [List.nil_append, List.append_assoc] at hO
    simp only [List.nil_append, List.append_assoc, reduceCtorEq, if_true, if_false, List.append_nil, (by decide : ¬ (1 : Int) = 2), (by decide : ¬ (1 : Int) = 3), (by decide : ¬ (2 : Int) = 1), (by decide : ¬ (2 : Int) = 3), (by decide : ¬ (3 : Int) = 1), (by decide : ¬ (3 : Int) = 2)] at HQF
    rw [← HQF] at hO
    obtain ⟨A', n', c', rfl, hown, hb⟩ := HS.out _ _ hO
    clear hO
    go_wp2
    go_ret2
    exact ⟨A', n', c', rfl, hown, hb⟩
  · subst hk
    go_enter Tryz.func154, Tryz.ntmps154
    go_wp2_with fail
    refine hF.mono ?_
    rintro e w1 ⟨rfl, hb⟩
    have hO := OutW.made _ w1 hb
    obtain ⟨c0, c1, c2, c3, c4, c5, c6⟩ := HC.out.later hO.below
    have HO := Lib.hid hO
    clear hb hO hF
    go_wp2_with fail
    refine (HO.out.n ep 4 (by simp only [List.length_nil]; omega) (by omega) (by omega) hep').mono ?_
    rintro e w2 ⟨rfl, hO⟩
    obtain ⟨c0, c1, c2, c3, c4, c5, c6⟩ := HC.out.later hO.below
    have HO := Lib.hid hO
    clear hO
    go_wp2_with fail
    refine (HO.out.n u 4 (by simp only [List.length_append, List.length_nil, l1, l2, l4, l6, lN]; omega) (by omega) (by omega) hui').mono ?_
    rintro e w3 ⟨rfl, hO⟩
    obtain ⟨c0, c1, c2, c3, c4, c5, c6⟩ := HC.out.later hO.below
    have HO := Lib.hid hO
    clear hO
    go_wp2_with fail
    refine (HO.out.n d' 6 (by simp only [List.length_append, List.length_nil, l1, l2, l4, l6, lN]; omega) (by omega) (by omega) hd').mono ?_
    rintro e w4 ⟨rfl, hO⟩
    obtain ⟨c0, c1, c2, c3, c4, c5, c6⟩ := HC.out.later hO.below
    have HO := Lib.hid hO
    clear hO
    go_wp2_with fail
    refine (HO.out.n f' 1 (by simp only [List.length_append, List.length_nil, l1, l2, l4, l6, lN]; omega) (by omega) (by omega) hf').mono ?_
    rintro e w5 ⟨rfl, hO⟩
    obtain ⟨c0, c1, c2, c3, c4, c5, c6⟩ := HC.out.later hO.below
    have HO := Lib.hid hO
    clear hO
    go_wp2_with fail
    refine (HO.out.text nm (by omega) (by simp only [List.length_append, List.length_nil, l1, l2, l4, l6, lN]; omega)).mono ?_
    rintro e w6 ⟨rfl, hO⟩
    obtain ⟨c0, c1, c2, c3, c4, c5, c6⟩ := HC.out.later hO.below
    have HO := Lib.hid hO
    clear hO
    go_wp2_with fail
    refine (HO.out.raw A n c oc HR.out (by simp only [List.length_append, List.length_nil, l1, l2, l4, l6, lN]; omega)).mono ?_
    rintro e w7 ⟨rfl, hO⟩
    obtain ⟨c0, c1, c2, c3, c4, c5, c6⟩ := HC.out.later hO.below
    have HO := Lib.hid hO
    clear hO
    have HQF : q = _ := HQ.out
    
    go_wp2_with fail
    refine (HO.out.done (by simp only [List.length_append, List.length_nil, l1, l2, l4, l6, lN]; omega)).mono ?_
    rintro e w9 hO
    simp only [List.nil_append, List.append_assoc] at hO
    simp only [List.nil_append, List.append_assoc, reduceCtorEq, if_true, if_false, List.append_nil, (by decide : ¬ (1 : Int) = 2), (by decide : ¬ (1 : Int) = 3), (by decide : ¬ (2 : Int) = 1), (by decide : ¬ (2 : Int) = 3), (by decide : ¬ (3 : Int) = 1), (by decide : ¬ (3 : Int) = 2)] at HQF
    rw [← HQF] at hO
    obtain ⟨A', n', c', rfl, hown, hb⟩ := HS.out _ _ hO
    clear hO
    go_wp2
    go_ret2
    exact ⟨A', n', c', rfl, hown, hb⟩
  · subst hk
    go_enter Tryz.func154, Tryz.ntmps154
    go_wp2_with fail
    refine hF.mono ?_
    rintro e w1 ⟨rfl, hb⟩
    have hO := OutW.made _ w1 hb
    obtain ⟨c0, c1, c2, c3, c4, c5, c6⟩ := HC.out.later hO.below
    have HO := Lib.hid hO
    clear hb hO hF
    go_wp2_with fail
    refine (HO.out.n ep 4 (by simp only [List.length_nil]; omega) (by omega) (by omega) hep').mono ?_
    rintro e w2 ⟨rfl, hO⟩
    obtain ⟨c0, c1, c2, c3, c4, c5, c6⟩ := HC.out.later hO.below
    have HO := Lib.hid hO
    clear hO
    go_wp2_with fail
    refine (HO.out.n u 4 (by simp only [List.length_append, List.length_nil, l1, l2, l4, l6, lN]; omega) (by omega) (by omega) hui').mono ?_
    rintro e w3 ⟨rfl, hO⟩
    obtain ⟨c0, c1, c2, c3, c4, c5, c6⟩ := HC.out.later hO.below
    have HO := Lib.hid hO
    clear hO
    go_wp2_with fail
    refine (HO.out.raw A n c oc HR.out (by simp only [List.length_append, List.length_nil, l1, l2, l4, l6, lN]; omega)).mono ?_
    rintro e w4 ⟨rfl, hO⟩
    obtain ⟨c0, c1, c2, c3, c4, c5, c6⟩ := HC.out.later hO.below
    have HO := Lib.hid hO
    clear hO
    have HQF : q = _ := HQ.out
    
    go_wp2_with fail
    refine (HO.out.done (by simp only [List.length_append, List.length_nil, l1, l2, l4, l6, lN]; omega)).mono ?_
    rintro e w9 hO
    simp only [List.nil_append, List.append_assoc] at hO
    simp only [List.nil_append, List.append_assoc, reduceCtorEq, if_true, if_false, List.append_nil, (by decide : ¬ (1 : Int) = 2), (by decide : ¬ (1 : Int) = 3), (by decide : ¬ (2 : Int) = 1), (by decide : ¬ (2 : Int) = 3), (by decide : ¬ (3 : Int) = 1), (by decide : ¬ (3 : Int) = 2)] at HQF
    rw [← HQF] at hO
    obtain ⟨A', n', c', rfl, hown, hb⟩ := HS.out _ _ hO
    clear hO
    go_wp2
    go_ret2
    exact ⟨A', n', c', rfl, hown, hb⟩
set_option maxHeartbeats 1000000 in
theorem frame_note (x : Note) (A : Option Addr) (n c : Nat) (hf : formed x = true) (hw : x.wf) (w : World) (hr : RB w A n x.msg.oct) (hE : Env w) :
    Calls Tryz.prog 99 #[noteV x (.slice A n c)] w (Ended w (frameB x.kind.toNat (encode x)) 0) := by
  have hb0 : Below w.heap.size w (w.alloc (.cells (noteCells x (.slice A n c)).toArray 134)) := (Below.refl _ _).alloc (Nat.le_refl _) _
  have hC0 := NoteC.boxed w x (.slice A n c) 134
  have hC := encode_any x A n c hf hw _ (hr.below hb0) (hE.below hb0)
  have hk := formed_kind hf
  have hle := encode_le hf
  obtain ⟨k, hkk⟩ : ∃ k : Nat, x.kind = (k : Int) := ⟨x.kind.toNat, by omega⟩
  have hkt : x.kind.toNat = k := by rw [hkk]; rfl
  rw [hkt]
  have k0 := (hC0.c0)
  rw [hkk] at k0
  have k13 : 1 ≤ k ∧ k ≤ 3 := by omega
  obtain ⟨q, hq⟩ : ∃ q, q = encode x := ⟨_, rfl⟩
  rw [← hq] at hC hle ⊢
  obtain ⟨kd, ep, nm, m⟩ := x
  obtain ⟨u, d, f, oc⟩ := m
  unfold noteV at hC ⊢
  unfold noteCells at hC hb0 hC0 k0
  unfold msgCells at hC hb0 hC0 k0
  unfold noteCells msgCells
  dsimp only [List.cons_append, List.nil_append] at *
  subst hkk
  have HB := Lib.hid hb0
  clear hE hb0 hf hw hk hkt hq hC0
  go_enter Tryz.func99, Tryz.ntmps99
  go_wp2_with fail
  refine hC.mono ?_
  rintro e w1 ⟨A1, n1, c1, rfl, hown, hb⟩
  have k0' := cell_later hb k0
  have HB1 := Lib.hid (HB.out.trans (hb.mono HB.out.size))
  have hl := hown.2.1
  have hl1 := hown.1
  clear hb k0
  go_wp2_with fail
  refine (frame_ok k A1 n1 c1 q w1 hown.read k13.1 k13.2 (by omega)).mono ?_
  intro e w2 hend
  obtain ⟨A2, n2, c2, rfl, hown2, hb2⟩ := Ended.more HB1.out hend
  clear hend hown
  go_wp2
  go_ret2
  exact ⟨A2, n2, c2, rfl, hown2, hb2⟩
set_option maxHeartbeats 1000000 in
theorem frame_bad (x : Note) (A : Option Addr) (n c : Nat) (hf : formed x = false) (hn : n = x.msg.oct.length) (hlt : n ≤ 10000000) (hnm : x.name.size ≤ 1000000) (hd0 : -9223372036854775808 ≤ x.msg.date) (hd1 : x.msg.date ≤ 9223372036854775807) (w : World) (hE : Env w) :
    Calls Tryz.prog 99 #[noteV x (.slice A n c)] w (Ended w [] 1) := by
  have hb0 : Below w.heap.size w (w.alloc (.cells (noteCells x (.slice A n c)).toArray 134)) := (Below.refl _ _).alloc (Nat.le_refl _) _
  have hC := encode_bad x A n c hf hn hlt hnm hd0 hd1 _ (hE.below hb0)
  obtain ⟨kd, ep, nm, m⟩ := x
  obtain ⟨u, d, f, oc⟩ := m
  unfold noteV at hC ⊢
  unfold noteCells at hC hb0 ⊢
  unfold msgCells at hC hb0 ⊢
  dsimp only [List.cons_append, List.nil_append] at *
  have HB := Lib.hid hb0
  clear hE hb0 hf hn hlt hnm hd0 hd1
  go_enter Tryz.func99, Tryz.ntmps99
  go_wp2_with fail
  refine hC.mono ?_
  rintro e w1 ⟨A1, n1, c1, rfl, hown, hb⟩
  have HB1 := Lib.hid (HB.out.trans (hb.mono HB.out.size))
  clear hb hown
  go_wp2
  go_ret2
  exact ⟨none, 0, 0, rfl, Own.nil _ _, HB1.out⟩
end Go.Proofs.YtlhaempecidohaaGreatDoor
namespace Go.Proofs.YtlhaempecidohaaGreatDoor
open Go.RowKit
theorem got_app (a r : List Nat) (s : Nat) (h : a.length = s) : (InM.mk (a ++ r) false).got (s : Int) = a ∧ (InM.mk (a ++ r) false).rest (s : Int) = ⟨r, false⟩ := by
  have h1 : (InM.mk (a ++ r) false).ok (s : Int) = true := by
    unfold InM.ok
    simp only [Bool.not_false, Bool.true_and, List.length_append, Bool.and_eq_true, decide_eq_true_eq]
    omega
  unfold InM.got InM.rest
  rw [h1]
  simp only [if_true, Int.toNat_natCast]
  subst h
  simp
theorem in_num {K : Nat → Prop} (g : Nat) (x s : Nat) (r : List Nat) (w : World) (h : InP K w g ⟨beb x s ++ r, false⟩) (h1 : 1 ≤ s) (h2 : s ≤ 7) (hx : x < 256 ^ s) :
    Calls Tryz.prog 115 #[.pointer (some ⟨g, 0, none⟩), .int .i64 (s : Int)] w fun e w' => e = .returned (.int .i64 (x : Int)) ∧ InP K w' g ⟨r, false⟩ ∧ Only (fun k => k = g) w w' := by
  refine (in_n g _ s w h).mono ?_
  rintro e w' ⟨rfl, hi, ho⟩
  have hs : sizeN (s : Int) = (s : Int) := by unfold sizeN; rw [if_pos (by omega)]
  obtain ⟨g1, g2⟩ := got_app (beb x s) r s (beb_length x s)
  rw [hs, g2] at hi
  rw [hs, g1, num_beb s x hx]
  exact ⟨rfl, hi, ho⟩
theorem in_txt {K : Nat → Prop} (g : Nat) (s : ByteArray) (r : List Nat) (w : World) (h : InP K w g ⟨textB s ++ r, false⟩) (hx : s.size < 65536) :
    Calls Tryz.prog 116 #[.pointer (some ⟨g, 0, none⟩)] w fun e w' => e = .returned (.string s) ∧ InP K w' g ⟨r, false⟩ ∧ Only (fun k => k = g) w w' := by
  refine (in_text g _ w h).mono ?_
  rintro e w' ⟨rfl, hi, ho⟩
  obtain ⟨g1, g2⟩ := got_app (beb s.size 2) (ofStr s ++ r) 2 (beb_length _ 2)
  obtain ⟨g3, g4⟩ := got_app (ofStr s) r s.size (ofStr_length s)
  have e2 : ((2 : Nat) : Int) = 2 := rfl
  unfold textB at hi ⊢
  rw [List.append_assoc] at hi ⊢
  rw [e2] at g1 g2
  rw [g1, g2, num_beb 2 _ (by omega), g4] at hi
  rw [g1, g2, num_beb 2 _ (by omega), g3, str_ofStr]
  exact ⟨rfl, hi, ho⟩
theorem in_all (g : Nat) (a : List Nat) (w : World) (h : InS w g ⟨a, false⟩) (hl : a.length ≤ 10000000) :
    Calls Tryz.prog 150 #[.pointer (some ⟨g, 0, none⟩), .int .i64 (a.length : Int)] w fun e w' => ∃ A m c, e = .returned (.slice A m c) ∧ m ≤ c ∧ RB w' A m a ∧ InS w' g ⟨[], false⟩ ∧ Only (fun k => k = g) w w' ∧ ∀ q, blk A = some q → w.heap.size ≤ q := by
  refine (in_raw g _ _ w h hl).mono ?_
  rintro e w' ⟨A, m, c, rfl, hmc, hr, hi, ho, hq⟩
  obtain ⟨g1, g2⟩ := got_app a [] a.length rfl
  rw [List.append_nil] at g1 g2
  rw [g1] at hr
  rw [g2] at hi
  exact ⟨A, m, c, rfl, hmc, hr, hi, ho, hq⟩
theorem strOfNums_nat (l : List Nat) (h : ∀ x ∈ l, x < 256) : strOfNums (l.map fun (x : Nat) => (x : Int)) = str l := by
  unfold strOfNums str
  rw [List.map_map]
  rfl
theorem equal_any (A B : Option Addr) (n c m d : Nat) (a b : List Nat) (w : World) (h1 : RB w A n a) (h2 : RB w B m b) :
    Calls Tryz.prog 82 #[.slice A n c, .slice B m d] w fun e w' => e = .returned (.bool (decide (a = b))) ∧ w' = w := by
  have e1 := conv_rb h1 c
  have e2 := conv_rb h2 d
  rw [← strOfNums_nat a h1.2.1] at e1
  rw [← strOfNums_nat b h2.2.1] at e2
  refine (Tryz.bytes_Equal _ _ _ _ w e1 e2).mono ?_
  rintro e w' ⟨rfl, rfl⟩
  refine ⟨?_, rfl⟩
  have k : ∀ l : List Nat, Lib.bytesOf (l.map fun (x : Nat) => (x : Int)) = l.map UInt8.ofNat := fun l => by
    unfold Lib.bytesOf
    rw [List.map_map]
    rfl
  rw [k, k]
  suffices h : (a.map UInt8.ofNat == b.map UInt8.ofNat) = decide (a = b) by rw [h]
  by_cases he : a = b
  · subst he
    rw [decide_eq_true rfl]
    exact beq_self_eq_true _
  · rw [decide_eq_false he, beq_eq_false_iff_ne]
    intro h
    refine he ?_
    have hh := congrArg (List.map UInt8.toNat) h
    have q : ∀ l : List Nat, (∀ x ∈ l, x < 256) → (l.map UInt8.ofNat).map UInt8.toNat = l := fun l hl => by
      have := ofStr_str hl
      unfold ofStr str at this
      simpa using this
    rwa [q a h1.2.1, q b h2.2.1] at hh
def Decoded (w : World) (x : Note) (e : Ending) (w' : World) : Prop :=
  ∃ A n c, e = .returned (.tuple #[noteV x (.slice A n c), .int .i64 0]) ∧ RB w' A n x.msg.oct ∧ n ≤ c ∧ Below w.heap.size w w' ∧ ∀ q, blk A = some q → w.heap.size ≤ q
theorem formed_dates {x : Note} (hf : formed x = true) : 0 ≤ x.msg.date ∧ x.msg.date ≤ 253402300799 ∧ 0 ≤ x.msg.flags ∧ x.msg.flags ≤ 31 := by
  have hk := formed_kind hf
  unfold formed at hf
  by_cases he : x.epoch < 1
  · rw [if_pos he] at hf; cases hf
  · rw [if_neg he] at hf
    unfold rightMsg bareMsg dated flagged at hf
    rcases hk with h | h | h
    · rw [if_pos h] at hf
      simp only [Bool.and_eq_true, decide_eq_true_eq] at hf
      omega
    · rw [if_neg (by omega), if_pos h] at hf
      simp only [Bool.and_eq_true, decide_eq_true_eq] at hf
      omega
    · rw [if_neg (by omega), if_neg (by omega)] at hf
      simp only [Bool.and_eq_true, decide_eq_true_eq] at hf
      omega
theorem formed_plain {x : Note} (hf : formed x = true) : (x.kind = 1 → x.msg.date = 0 ∧ x.msg.flags = 0 ∧ x.msg.oct = [] ∧ x.msg.uid = 0) ∧ (x.kind = 3 → x.msg.date = 0 ∧ x.msg.flags = 0 ∧ x.msg.oct = [] ∧ x.name = ByteArray.empty) := by
  unfold formed at hf
  by_cases he : x.epoch < 1
  · rw [if_pos he] at hf; cases hf
  · rw [if_neg he] at hf
    unfold bareMsg at hf
    constructor
    · intro h
      rw [if_pos h] at hf
      simp only [Bool.and_eq_true, decide_eq_true_eq] at hf
      exact ⟨hf.1.2.1.1, hf.1.2.1.2, List.length_eq_zero_iff.1 hf.1.2.2, hf.2⟩
    · intro h
      rw [if_neg (by omega), if_neg (by omega)] at hf
      simp only [Bool.and_eq_true, decide_eq_true_eq] at hf
      exact ⟨hf.1.2.1.1, hf.1.2.1.2, List.length_eq_zero_iff.1 hf.1.2.2, hf.1.1.2⟩
theorem noteNoB {w : World} {t : Nat} {y : Note} {A : Option Addr} {n c : Nat} (h : w.heap[t]? = some (.cells (noteCells y (.slice A n c)).toArray 134 (0, 0))) : NoB w t :=
  NoB.cells h (fun j x e => by
    unfold noteCells msgCells at e
    rw [List.getElem?_toArray] at e
    rcases j with _ | _ | _ | _ | _ | _ | _ | j <;> simp at e)
/-- In the midst of Decode: the In at g has r left, the note at t is y so far, with the slice o. -/
structure DecS (w0 w : World) (g t : Nat) (y : Note) (o : Value) (r : List Nat) : Prop where
  inp : InS w g ⟨r, false⟩
  nt : w.heap[t]? = some (.cells (noteCells y o).toArray 134 (0, 0))
  sl : ∃ A n c, o = .slice A n c
  ne : t ≠ g
  below : Below w0.heap.size w0 w
  geg : w0.heap.size ≤ g
  get : w0.heap.size ≤ t
section
variable {w0 w w' : World} {g t : Nat} {y : Note} {o : Value} {r : List Nat}
theorem DecS.turn (h : DecS w0 w g t y o r) {r' : List Nat} (hi : InS w' g ⟨r', false⟩) (ho : Only (fun k => k = g) w w') : DecS w0 w' g t y o r' :=
  ⟨hi, ho.heap h.nt h.ne, h.sl, h.ne, h.below.trans (ho.below h.below.size (fun i hi e => by have := h.geg; omega)), h.geg, h.get⟩
theorem DecS.num {x s : Nat} (h : DecS w0 w g t y o (beb x s ++ r)) (h1 : 1 ≤ s) (h2 : s ≤ 7) (hx : x < 256 ^ s) :
    Calls Tryz.prog 115 #[.pointer (some ⟨g, 0, none⟩), .int .i64 (s : Int)] w fun e w' => e = .returned (.int .i64 (x : Int)) ∧ DecS w0 w' g t y o r := by
  refine (in_num g x s r w h.inp h1 h2 hx).mono ?_
  rintro e w' ⟨rfl, hi, ho⟩
  exact ⟨rfl, h.turn hi ho⟩
theorem DecS.txt {s : ByteArray} (h : DecS w0 w g t y o (textB s ++ r)) (hx : s.size < 65536) :
    Calls Tryz.prog 116 #[.pointer (some ⟨g, 0, none⟩)] w fun e w' => e = .returned (.string s) ∧ DecS w0 w' g t y o r := by
  refine (in_txt g s r w h.inp hx).mono ?_
  rintro e w' ⟨rfl, hi, ho⟩
  exact ⟨rfl, h.turn hi ho⟩
theorem DecS.rest (h : DecS w0 w g t y o r) (hl : r.length ≤ 10000000) :
    Calls Tryz.prog 150 #[.pointer (some ⟨g, 0, none⟩), .int .i64 (r.length : Int)] w fun e w' => ∃ A m c, e = .returned (.slice A m c) ∧ m ≤ c ∧ RB w' A m r ∧ DecS w0 w' g t y o [] ∧ ∀ q, blk A = some q → w0.heap.size ≤ q := by
  refine (in_all g r w h.inp hl).mono ?_
  rintro e w' ⟨A, m, c, rfl, hmc, hr, hi, ho, hq⟩
  exact ⟨A, m, c, rfl, hmc, hr, h.turn hi ho, fun q h' => Nat.le_trans h.below.size (hq q h')⟩
theorem DecS.cells (h : DecS w0 w g t y o r) : NoteC w t y o ∧ ∀ j, w.frozen? ⟨t, j, none⟩ = false := by
  have hn := h.nt
  unfold noteCells msgCells at hn
  exact ⟨⟨cell_of_row w t 0 _ _ _ hn, cell_of_row w t 1 _ _ _ hn, cell_of_row w t 2 _ _ _ hn, cell_of_row w t 3 _ _ _ hn, cell_of_row w t 4 _ _ _ hn, cell_of_row w t 5 _ _ _ hn, cell_of_row w t 6 _ _ _ hn⟩, fun j => by simp [World.frozen?, h.nt]⟩
theorem DecS.set (h : DecS w0 w g t y o r) (j : Nat) (v : Value) {y' : Note} {o' : Value} (hc : (noteCells y o).toArray.setIfInBounds j v = (noteCells y' o').toArray) (ho : ∃ A n c, o' = .slice A n c) :
    DecS w0 (w.setCell ⟨t, j, none⟩ v) g t y' o' r := by
  obtain ⟨A, n, c, h1, h2, h3, h4⟩ := h.inp
  have hon := only_set w t j v
  have hnb : NoB w t := by
    obtain ⟨A', n', c', rfl⟩ := h.sl
    exact noteNoB h.nt
  refine ⟨⟨A, n, c, hon.heap h1 (fun e => h.ne e.symm), h2.keep hon (fun b hb => hb ▸ hnb), h3, h4⟩, ?_, ho, h.ne, h.below.trans (hon.below h.below.size (fun i hi e => by have := h.get; omega)), h.geg, h.get⟩
  rw [blk_set h.nt j v, hc]
theorem DecS.start (h : InS w g ⟨r, false⟩) (hb : Below w0.heap.size w0 w) (hg : w0.heap.size ≤ g) (y : Note) :
    DecS w0 (w.alloc (.cells (noteCells y (.slice none 0 0)).toArray 134)) g w.heap.size y (.slice none 0 0) r := by
  have hlt : g < w.heap.size := (Array.getElem?_eq_some_iff.1 h.choose_spec.choose_spec.choose_spec.1).1
  exact ⟨h.below ((Below.refl _ _).alloc (Nat.le_refl _) _), heap_alloc_new _ _, ⟨_, _, _, rfl⟩, by omega, hb.alloc hb.size _, hg, hb.size⟩
end
def zeroMsg : Msg := ⟨0, 0, 0, []⟩
set_option maxRecDepth 8000 in
set_option maxHeartbeats 2000000 in
theorem decode_any (x : Note) (A : Option Addr) (n c : Nat) (hf : formed x = true) (hw : x.wf) (w : World) (hr : RB w A n (encode x)) (hE : Env w) :
    Calls Tryz.prog 92 #[.int .i64 x.kind, .slice A n c] w (Decoded w x) := by
  have hlen := hr.1
  have hoct := formed_oct hf
  have hnm := formed_name hf
  have hk := formed_kind hf
  have hep : x.epoch < 256 ^ 4 := hw.epoch
  have hui : x.msg.uid < 256 ^ 4 := hw.msg.uid
  have hsz := encode_length hf
  have hdt := formed_dates hf
  have hb0 : Below w.heap.size w (w.alloc (.cells #[.int .i64 0, .int .u32 0, .string ⟨#[]⟩, .int .u32 0, .int .i64 0, .int .i64 0, .slice none 0 0] 134)) := (Below.refl _ _).alloc (Nat.le_refl _) _
  have hI := newIn A n c _ _ (hr.below hb0) (by omega)
  rcases hk with hk | hk | hk
  · have hen : encode x = beb x.epoch 4 ++ (textB x.name ++ x.msg.oct) := by
      unfold encode
      simp only [hk, if_true, if_false, List.append_nil, List.append_assoc, (by decide : ¬ (1 : Int) = 2), (by decide : ¬ (1 : Int) = 3)]
    have hpl := formed_plain hf
    have HW0 := Lib.hid hk
    rw [hk]
    have HI := Lib.hid hI
    have HEN := Lib.hid hen
    have HR := Lib.hid hr
    have HE := Lib.hid hE
    have HB := Lib.hid hb0
    have HF := Lib.hid hf
    have HW := Lib.hid hw
    have HPL := Lib.hid hpl
    have HSZ : Hid (n ≤ 10000000) := by show n ≤ _; omega
    clear hI hen hr hE hb0 hf hw hlen hsz hk hpl
    obtain ⟨d', hd'⟩ := Int.eq_ofNat_of_zero_le hdt.1
    obtain ⟨f', hf'⟩ := Int.eq_ofNat_of_zero_le hdt.2.2.1
    have hd6 : d' < 256 ^ 6 := by omega
    have hf1 : f' < 256 ^ 1 := by omega
    have wep : IntKind.u32.wrap (x.epoch : Int) = (x.epoch : Int) := by rw [IntKind.wrap_u32]; omega
    have wui : IntKind.u32.wrap (x.msg.uid : Int) = (x.msg.uid : Int) := by rw [IntKind.wrap_u32]; omega
    have HDT := Lib.hid hdt
    have Hd := Lib.hid hd'
    have Hf := Lib.hid hf'
    clear hdt hd' hf'
    go_enter Tryz.func92, Tryz.ntmps92
    go_wp2_with fail
    refine (HI.out).mono ?_
    rintro e w1 ⟨g, rfl, hg, hi, hb, -⟩
    rw [HEN.out] at hi
    go_wp2_with fail
    refine (in_num g x.epoch 4 _ w1 hi (by omega) (by omega) hep).mono ?_
    rintro e w2 ⟨rfl, hi, ho⟩
    have hD := DecS.start hi (hb.trans (ho.below hb.size (fun i hi e => by omega))) hg ⟨1, x.epoch, ⟨#[]⟩, ⟨0, 0, 0, []⟩⟩
    unfold noteCells msgCells at hD
    dsimp only [List.cons_append, List.nil_append] at hD
    clear hi ho hb
    go_wp2_with fail
    refine (hD.txt (by omega)).mono ?_
    clear hD
    rintro e w3 ⟨rfl, hD⟩
    obtain ⟨⟨c0, c1, c2, c3, c4, c5, c6⟩, fr⟩ := hD.cells
    dsimp only at c0 c1 c2 c3 c4 c5 c6
    go_wp2_with fail
    have hD := hD.set 2 (.string x.name) (y' := ⟨1, x.epoch, x.name, ⟨0, 0, 0, []⟩⟩) (o' := .slice none 0 0) rfl ⟨_, _, _, rfl⟩
    clear c0 c1 c2 c3 c4 c5 c6 fr
    refine (in_left g _ _ hD.inp).mono ?_
    rintro e _ ⟨rfl, rfl⟩
    dsimp only
    go_wp2_with fail
    refine (hD.rest (by omega)).mono ?_
    clear hD
    rintro e w4 ⟨A', m, c', rfl, hmc, hr', hD, hfr⟩
    have HFR := Lib.hid hfr
    clear hfr
    obtain ⟨⟨c0, c1, c2, c3, c4, c5, c6⟩, fr⟩ := hD.cells
    dsimp only at c0 c1 c2 c3 c4 c5 c6
    go_wp2_with fail
    have hrk : RB (w4.setCell ⟨w2.heap.size, 6, none⟩ (.slice A' m c')) A' m x.msg.oct := by
      obtain ⟨Az, nz, cz, hz⟩ := hD.sl
      exact hr'.keep (only_set w4 w2.heap.size 6 _) (fun b hb => by subst hb; have := hD.nt; rw [hz] at this; exact noteNoB this)
    have hD := hD.set 6 (.slice A' m c') (y' := x) (o' := .slice A' m c') (by unfold noteCells msgCells; rw [HW0.out, (HPL.out.1 HW0.out).1, (HPL.out.1 HW0.out).2.1, (HPL.out.1 HW0.out).2.2.2]; rfl) ⟨_, _, _, rfl⟩
    clear c0 c1 c2 c3 c4 c5 c6 fr hr'
    obtain ⟨v, hv⟩ : ∃ v, v = w4.setCell ⟨w2.heap.size, 6, none⟩ (.slice A' m c') := ⟨_, rfl⟩
    rw [← hv] at hrk hD ⊢
    clear hv
    refine (in_bad g _ _ hD.inp).mono ?_
    rintro e _ ⟨rfl, rfl⟩
    dsimp only
    obtain ⟨⟨c0, c1, c2, c3, c4, c5, c6⟩, fr⟩ := hD.cells
    rw [HW0.out] at c0
    go_wp2_with fail
    have hF := formed_any x A' m c' hrk.1.symm (by have := hrk.1; omega) (by omega) (by have := HDT.out; omega) (by have := HDT.out; omega) v ((HE.out.below HB.out).below hD.below)
    unfold noteV noteCells msgCells at hF
    dsimp only [List.cons_append, List.nil_append] at hF
    rw [HW0.out, HF.out] at hF
    refine hF.mono ?_
    clear hF
    rintro e v2 ⟨rfl, hb2⟩
    obtain ⟨c0, c1, c2, c3, c4, c5, c6⟩ := (hD.cells.1).later hb2
    rw [HW0.out] at c0
    have hB2 := hD.below.trans (hb2.mono hD.below.size)
    go_wp2_with fail
    have hF := encode_any x A' m c' HF.out HW.out v2 (hrk.below hb2) ((HE.out.below HB.out).below hB2)
    unfold noteV noteCells msgCells at hF
    dsimp only [List.cons_append, List.nil_append] at hF
    rw [HW0.out] at hF
    refine hF.mono ?_
    clear hF
    rintro e v3 ⟨A2, n2, c2', rfl, hown, hb3⟩
    have hB3 := hB2.trans (hb3.mono hB2.size)
    obtain ⟨d0, d1, d2, d3, d4, d5, d6⟩ := ((hD.cells.1).later hb2).later hb3
    rw [HW0.out] at d0
    clear c0 c1 c2 c3 c4 c5 c6 fr
    go_wp2_with fail
    refine (equal_any A2 A n2 c2' n c _ _ v3 hown.read ((HR.out.below HB.out).below hB3)).mono ?_
    rintro e v4 ⟨rfl, hv4⟩
    subst hv4
    rw [decide_eq_true rfl]
    have R0 : v4.cell? ⟨w.heap.size, 0, none⟩ = some (.int .i64 0) := cell_later hB3 (cell_new w _ 134 rfl)
    have R1 : v4.cell? ⟨w.heap.size, 1, none⟩ = some (.int .u32 0) := cell_later hB3 (cell_new w _ 134 rfl)
    have R2 : v4.cell? ⟨w.heap.size, 2, none⟩ = some (.string ⟨#[]⟩) := cell_later hB3 (cell_new w _ 134 rfl)
    have R3 : v4.cell? ⟨w.heap.size, 3, none⟩ = some (.int .u32 0) := cell_later hB3 (cell_new w _ 134 rfl)
    have R4 : v4.cell? ⟨w.heap.size, 4, none⟩ = some (.int .i64 0) := cell_later hB3 (cell_new w _ 134 rfl)
    have R5 : v4.cell? ⟨w.heap.size, 5, none⟩ = some (.int .i64 0) := cell_later hB3 (cell_new w _ 134 rfl)
    have R6 : v4.cell? ⟨w.heap.size, 6, none⟩ = some (.slice none 0 0) := cell_later hB3 (cell_new w _ 134 rfl)
    have RH : v4.heap[w.heap.size]? = some (.cells #[.int .i64 0, .int .u32 0, .string ⟨#[]⟩, .int .u32 0, .int .i64 0, .int .i64 0, .slice none 0 0] 134 (0, 0)) := (hB3.block _ (by simp)).trans (heap_alloc_new w _)
    have RF : ∀ j, v4.frozen? ⟨w.heap.size, j, none⟩ = false := fun j => by simp [World.frozen?, RH]
    have hrf := ((hrk.below hb2).below hb3)
    have hBw := HB.out.trans (hB3.mono HB.out.size)
    have HRF := Lib.hid hrf
    have HBW := Lib.hid hBw
    have HRH := Lib.hid RH
    clear hrf hBw RH hB3 hb3 hb2 hB2 hown hD hrk
    go_wp2_with fail
    obtain ⟨w5, hw5⟩ : ∃ w5, w5 = (((((((v4.setCell ⟨w.heap.size, 0, none⟩ (.int .i64 1)).setCell ⟨w.heap.size, 1, none⟩ (.int .u32 (x.epoch : Int))).setCell ⟨w.heap.size, 2, none⟩ (.string x.name)).setCell ⟨w.heap.size, 3, none⟩ (.int .u32 (x.msg.uid : Int))).setCell ⟨w.heap.size, 4, none⟩ (.int .i64 x.msg.date)).setCell ⟨w.heap.size, 5, none⟩ (.int .i64 x.msg.flags)).setCell ⟨w.heap.size, 6, none⟩ (.slice A' m c')) := ⟨_, rfl⟩
    rw [← hw5]
    have hO5 : Only (fun k => k = w.heap.size) v4 w5 := by
      rw [hw5]
      exact (((((((Only.refl (fun k => k = w.heap.size) v4).setCell (p := ⟨w.heap.size, 0, none⟩) (.inl rfl) _).setCell (p := ⟨w.heap.size, 1, none⟩) (.inl rfl) _).setCell (p := ⟨w.heap.size, 2, none⟩) (.inl rfl) _).setCell (p := ⟨w.heap.size, 3, none⟩) (.inl rfl) _).setCell (p := ⟨w.heap.size, 4, none⟩) (.inl rfl) _).setCell (p := ⟨w.heap.size, 5, none⟩) (.inl rfl) _).setCell (p := ⟨w.heap.size, 6, none⟩) (.inl rfl) _
    have hH5 : w5.heap[w.heap.size]? = some (.cells #[.int .i64 1, .int .u32 (x.epoch : Int), .string x.name, .int .u32 (x.msg.uid : Int), .int .i64 x.msg.date, .int .i64 x.msg.flags, .slice A' m c'] 134 (0, 0)) := by
      rw [hw5]
      exact blk_set (blk_set (blk_set (blk_set (blk_set (blk_set (blk_set HRH.out 0 _) 1 _) 2 _) 3 _) 4 _) 5 _) 6 _
    have hnb : NoB v4 w.heap.size := NoB.cells HRH.out (fun j x e => by
      rw [List.getElem?_toArray] at e
      rcases j with _ | _ | _ | _ | _ | _ | _ | j <;> simp at e)
    have hrb5 := HRF.out.keep hO5 (fun b hb => hb ▸ hnb)
    have hbw5 := HBW.out.trans (hO5.below HBW.out.size (fun i hi e => by omega))
    have HRB5 := Lib.hid hrb5
    have HBW5 := Lib.hid hbw5
    have HH5 := Lib.hid hH5
    clear hw5 hO5 hnb hrb5 hbw5 R0 R1 R2 R3 R4 R5 R6 RF d0 d1 d2 d3 d4 d5 d6 hH5
    try simp only [Exit.inBlock, Exit.then]
    refine bodyPost_ret (results_cell_tmp_row rfl _ _ w.heap.size 134 _ (0, 0) rfl HH5.out row134 size134) rfl ?_
    exact ⟨A', m, c', by rw [← HW0.out]; rfl, HRB5.out, hmc, HBW5.out, fun q hq => Nat.le_trans HB.out.size (HFR.out q hq)⟩
  · have hen : encode x = beb x.epoch 4 ++ (beb x.msg.uid 4 ++ (beb x.msg.date.toNat 6 ++ (beb x.msg.flags.toNat 1 ++ (textB x.name ++ x.msg.oct)))) := by
      unfold encode
      simp only [hk, if_true, if_false, List.append_nil, List.append_assoc, (by decide : ¬ (2 : Int) = 1), (by decide : ¬ (2 : Int) = 3)]
    have hpl := formed_plain hf
    have HW0 := Lib.hid hk
    rw [hk]
    have HI := Lib.hid hI
    have HEN := Lib.hid hen
    have HR := Lib.hid hr
    have HE := Lib.hid hE
    have HB := Lib.hid hb0
    have HF := Lib.hid hf
    have HW := Lib.hid hw
    have HPL := Lib.hid hpl
    have HSZ : Hid (n ≤ 10000000) := by show n ≤ _; omega
    clear hI hen hr hE hb0 hf hw hlen hsz hk hpl
    obtain ⟨d', hd'⟩ := Int.eq_ofNat_of_zero_le hdt.1
    obtain ⟨f', hf'⟩ := Int.eq_ofNat_of_zero_le hdt.2.2.1
    have hd6 : d' < 256 ^ 6 := by omega
    have hf1 : f' < 256 ^ 1 := by omega
    have wep : IntKind.u32.wrap (x.epoch : Int) = (x.epoch : Int) := by rw [IntKind.wrap_u32]; omega
    have wui : IntKind.u32.wrap (x.msg.uid : Int) = (x.msg.uid : Int) := by rw [IntKind.wrap_u32]; omega
    have HDT := Lib.hid hdt
    have Hd := Lib.hid hd'
    have Hf := Lib.hid hf'
    clear hdt hd' hf'
    go_enter Tryz.func92, Tryz.ntmps92
    go_wp2_with fail
    refine (HI.out).mono ?_
    rintro e w1 ⟨g, rfl, hg, hi, hb, -⟩
    rw [HEN.out] at hi
    rw [Hd.out, Hf.out, Int.toNat_natCast, Int.toNat_natCast] at hi
    go_wp2_with fail
    refine (in_num g x.epoch 4 _ w1 hi (by omega) (by omega) hep).mono ?_
    rintro e w2 ⟨rfl, hi, ho⟩
    have hD := DecS.start hi (hb.trans (ho.below hb.size (fun i hi e => by omega))) hg ⟨2, x.epoch, ⟨#[]⟩, ⟨0, 0, 0, []⟩⟩
    unfold noteCells msgCells at hD
    dsimp only [List.cons_append, List.nil_append] at hD
    clear hi ho hb
    go_wp2_with fail
    refine (hD.num (by omega) (by omega) hui).mono ?_
    clear hD
    rintro e w3 ⟨rfl, hD⟩
    obtain ⟨⟨c0, c1, c2, c3, c4, c5, c6⟩, fr⟩ := hD.cells
    dsimp only at c0 c1 c2 c3 c4 c5 c6
    go_wp2_with fail
    have hD := hD.set 3 (.int .u32 (x.msg.uid : Int)) (y' := ⟨2, x.epoch, ⟨#[]⟩, ⟨x.msg.uid, 0, 0, []⟩⟩) (o' := .slice none 0 0) rfl ⟨_, _, _, rfl⟩
    clear c0 c1 c2 c3 c4 c5 c6 fr
    refine (hD.num (by omega) (by omega) hd6).mono ?_
    clear hD
    rintro e w4 ⟨rfl, hD⟩
    go_wp2_with fail
    refine (hD.num (by omega) (by omega) hf1).mono ?_
    clear hD
    rintro e w5 ⟨rfl, hD⟩
    obtain ⟨⟨c0, c1, c2, c3, c4, c5, c6⟩, fr⟩ := hD.cells
    dsimp only at c0 c1 c2 c3 c4 c5 c6
    go_wp2_with fail
    have hD := (hD.set 4 (.int .i64 (d' : Int)) (y' := ⟨2, x.epoch, ⟨#[]⟩, ⟨x.msg.uid, (d' : Int), 0, []⟩⟩) (o' := .slice none 0 0) rfl ⟨_, _, _, rfl⟩).set 5 (.int .i64 (f' : Int)) (y' := ⟨2, x.epoch, ⟨#[]⟩, ⟨x.msg.uid, (d' : Int), (f' : Int), []⟩⟩) (o' := .slice none 0 0) rfl ⟨_, _, _, rfl⟩
    clear c0 c1 c2 c3 c4 c5 c6 fr
    refine (hD.txt (by omega)).mono ?_
    clear hD
    rintro e w6 ⟨rfl, hD⟩
    obtain ⟨⟨c0, c1, c2, c3, c4, c5, c6⟩, fr⟩ := hD.cells
    dsimp only at c0 c1 c2 c3 c4 c5 c6
    go_wp2_with fail
    have hD := hD.set 2 (.string x.name) (y' := ⟨2, x.epoch, x.name, ⟨x.msg.uid, (d' : Int), (f' : Int), []⟩⟩) (o' := .slice none 0 0) rfl ⟨_, _, _, rfl⟩
    clear c0 c1 c2 c3 c4 c5 c6 fr
    refine (in_left g _ _ hD.inp).mono ?_
    rintro e _ ⟨rfl, rfl⟩
    dsimp only
    go_wp2_with fail
    refine (hD.rest (by omega)).mono ?_
    clear hD
    rintro e w7 ⟨A', m, c', rfl, hmc, hr', hD, hfr⟩
    have HFR := Lib.hid hfr
    clear hfr
    obtain ⟨⟨c0, c1, c2, c3, c4, c5, c6⟩, fr⟩ := hD.cells
    dsimp only at c0 c1 c2 c3 c4 c5 c6
    go_wp2_with fail
    have hrk : RB (w7.setCell ⟨w2.heap.size, 6, none⟩ (.slice A' m c')) A' m x.msg.oct := by
      obtain ⟨Az, nz, cz, hz⟩ := hD.sl
      exact hr'.keep (only_set w7 w2.heap.size 6 _) (fun b hb => by subst hb; have := hD.nt; rw [hz] at this; exact noteNoB this)
    have hD := hD.set 6 (.slice A' m c') (y' := x) (o' := .slice A' m c') (by unfold noteCells msgCells; rw [HW0.out, Hd.out, Hf.out]; rfl) ⟨_, _, _, rfl⟩
    clear c0 c1 c2 c3 c4 c5 c6 fr hr'
    obtain ⟨v, hv⟩ : ∃ v, v = w7.setCell ⟨w2.heap.size, 6, none⟩ (.slice A' m c') := ⟨_, rfl⟩
    rw [← hv] at hrk hD ⊢
    clear hv
    refine (in_bad g _ _ hD.inp).mono ?_
    rintro e _ ⟨rfl, rfl⟩
    dsimp only
    obtain ⟨⟨c0, c1, c2, c3, c4, c5, c6⟩, fr⟩ := hD.cells
    rw [HW0.out] at c0
    go_wp2_with fail
    have hF := formed_any x A' m c' hrk.1.symm (by have := hrk.1; omega) (by omega) (by have := HDT.out; omega) (by have := HDT.out; omega) v ((HE.out.below HB.out).below hD.below)
    unfold noteV noteCells msgCells at hF
    dsimp only [List.cons_append, List.nil_append] at hF
    rw [HW0.out, HF.out] at hF
    refine hF.mono ?_
    clear hF
    rintro e v2 ⟨rfl, hb2⟩
    obtain ⟨c0, c1, c2, c3, c4, c5, c6⟩ := (hD.cells.1).later hb2
    rw [HW0.out] at c0
    have hB2 := hD.below.trans (hb2.mono hD.below.size)
    go_wp2_with fail
    have hF := encode_any x A' m c' HF.out HW.out v2 (hrk.below hb2) ((HE.out.below HB.out).below hB2)
    unfold noteV noteCells msgCells at hF
    dsimp only [List.cons_append, List.nil_append] at hF
    rw [HW0.out] at hF
    refine hF.mono ?_
    clear hF
    rintro e v3 ⟨A2, n2, c2', rfl, hown, hb3⟩
    have hB3 := hB2.trans (hb3.mono hB2.size)
    obtain ⟨d0, d1, d2, d3, d4, d5, d6⟩ := ((hD.cells.1).later hb2).later hb3
    rw [HW0.out] at d0
    clear c0 c1 c2 c3 c4 c5 c6 fr
    go_wp2_with fail
    refine (equal_any A2 A n2 c2' n c _ _ v3 hown.read ((HR.out.below HB.out).below hB3)).mono ?_
    rintro e v4 ⟨rfl, hv4⟩
    subst hv4
    rw [decide_eq_true rfl]
    have R0 : v4.cell? ⟨w.heap.size, 0, none⟩ = some (.int .i64 0) := cell_later hB3 (cell_new w _ 134 rfl)
    have R1 : v4.cell? ⟨w.heap.size, 1, none⟩ = some (.int .u32 0) := cell_later hB3 (cell_new w _ 134 rfl)
    have R2 : v4.cell? ⟨w.heap.size, 2, none⟩ = some (.string ⟨#[]⟩) := cell_later hB3 (cell_new w _ 134 rfl)
    have R3 : v4.cell? ⟨w.heap.size, 3, none⟩ = some (.int .u32 0) := cell_later hB3 (cell_new w _ 134 rfl)
    have R4 : v4.cell? ⟨w.heap.size, 4, none⟩ = some (.int .i64 0) := cell_later hB3 (cell_new w _ 134 rfl)
    have R5 : v4.cell? ⟨w.heap.size, 5, none⟩ = some (.int .i64 0) := cell_later hB3 (cell_new w _ 134 rfl)
    have R6 : v4.cell? ⟨w.heap.size, 6, none⟩ = some (.slice none 0 0) := cell_later hB3 (cell_new w _ 134 rfl)
    have RH : v4.heap[w.heap.size]? = some (.cells #[.int .i64 0, .int .u32 0, .string ⟨#[]⟩, .int .u32 0, .int .i64 0, .int .i64 0, .slice none 0 0] 134 (0, 0)) := (hB3.block _ (by simp)).trans (heap_alloc_new w _)
    have RF : ∀ j, v4.frozen? ⟨w.heap.size, j, none⟩ = false := fun j => by simp [World.frozen?, RH]
    have hrf := ((hrk.below hb2).below hb3)
    have hBw := HB.out.trans (hB3.mono HB.out.size)
    have HRF := Lib.hid hrf
    have HBW := Lib.hid hBw
    have HRH := Lib.hid RH
    clear hrf hBw RH hB3 hb3 hb2 hB2 hown hD hrk
    go_wp2_with fail
    obtain ⟨w5, hw5⟩ : ∃ w5, w5 = (((((((v4.setCell ⟨w.heap.size, 0, none⟩ (.int .i64 2)).setCell ⟨w.heap.size, 1, none⟩ (.int .u32 (x.epoch : Int))).setCell ⟨w.heap.size, 2, none⟩ (.string x.name)).setCell ⟨w.heap.size, 3, none⟩ (.int .u32 (x.msg.uid : Int))).setCell ⟨w.heap.size, 4, none⟩ (.int .i64 x.msg.date)).setCell ⟨w.heap.size, 5, none⟩ (.int .i64 x.msg.flags)).setCell ⟨w.heap.size, 6, none⟩ (.slice A' m c')) := ⟨_, rfl⟩
    rw [← hw5]
    have hO5 : Only (fun k => k = w.heap.size) v4 w5 := by
      rw [hw5]
      exact (((((((Only.refl (fun k => k = w.heap.size) v4).setCell (p := ⟨w.heap.size, 0, none⟩) (.inl rfl) _).setCell (p := ⟨w.heap.size, 1, none⟩) (.inl rfl) _).setCell (p := ⟨w.heap.size, 2, none⟩) (.inl rfl) _).setCell (p := ⟨w.heap.size, 3, none⟩) (.inl rfl) _).setCell (p := ⟨w.heap.size, 4, none⟩) (.inl rfl) _).setCell (p := ⟨w.heap.size, 5, none⟩) (.inl rfl) _).setCell (p := ⟨w.heap.size, 6, none⟩) (.inl rfl) _
    have hH5 : w5.heap[w.heap.size]? = some (.cells #[.int .i64 2, .int .u32 (x.epoch : Int), .string x.name, .int .u32 (x.msg.uid : Int), .int .i64 x.msg.date, .int .i64 x.msg.flags, .slice A' m c'] 134 (0, 0)) := by
      rw [hw5]
      exact blk_set (blk_set (blk_set (blk_set (blk_set (blk_set (blk_set HRH.out 0 _) 1 _) 2 _) 3 _) 4 _) 5 _) 6 _
    have hnb : NoB v4 w.heap.size := NoB.cells HRH.out (fun j x e => by
      rw [List.getElem?_toArray] at e
      rcases j with _ | _ | _ | _ | _ | _ | _ | j <;> simp at e)
    have hrb5 := HRF.out.keep hO5 (fun b hb => hb ▸ hnb)
    have hbw5 := HBW.out.trans (hO5.below HBW.out.size (fun i hi e => by omega))
    have HRB5 := Lib.hid hrb5
    have HBW5 := Lib.hid hbw5
    have HH5 := Lib.hid hH5
    clear hw5 hO5 hnb hrb5 hbw5 R0 R1 R2 R3 R4 R5 R6 RF d0 d1 d2 d3 d4 d5 d6 hH5
    try simp only [Exit.inBlock, Exit.then]
    refine bodyPost_ret (results_cell_tmp_row rfl _ _ w.heap.size 134 _ (0, 0) rfl HH5.out row134 size134) rfl ?_
    exact ⟨A', m, c', by rw [← HW0.out]; rfl, HRB5.out, hmc, HBW5.out, fun q hq => Nat.le_trans HB.out.size (HFR.out q hq)⟩
  · have hen : encode x = beb x.epoch 4 ++ (beb x.msg.uid 4 ++ x.msg.oct) := by
      unfold encode
      simp only [hk, if_true, if_false, List.append_nil, List.append_assoc, (by decide : ¬ (3 : Int) = 1), (by decide : ¬ (3 : Int) = 2)]
    have hpl := formed_plain hf
    have HW0 := Lib.hid hk
    rw [hk]
    have HI := Lib.hid hI
    have HEN := Lib.hid hen
    have HR := Lib.hid hr
    have HE := Lib.hid hE
    have HB := Lib.hid hb0
    have HF := Lib.hid hf
    have HW := Lib.hid hw
    have HPL := Lib.hid hpl
    have HSZ : Hid (n ≤ 10000000) := by show n ≤ _; omega
    clear hI hen hr hE hb0 hf hw hlen hsz hk hpl
    obtain ⟨d', hd'⟩ := Int.eq_ofNat_of_zero_le hdt.1
    obtain ⟨f', hf'⟩ := Int.eq_ofNat_of_zero_le hdt.2.2.1
    have hd6 : d' < 256 ^ 6 := by omega
    have hf1 : f' < 256 ^ 1 := by omega
    have wep : IntKind.u32.wrap (x.epoch : Int) = (x.epoch : Int) := by rw [IntKind.wrap_u32]; omega
    have wui : IntKind.u32.wrap (x.msg.uid : Int) = (x.msg.uid : Int) := by rw [IntKind.wrap_u32]; omega
    have HDT := Lib.hid hdt
    have Hd := Lib.hid hd'
    have Hf := Lib.hid hf'
    clear hdt hd' hf'
    go_enter Tryz.func92, Tryz.ntmps92
    go_wp2_with fail
    refine (HI.out).mono ?_
    rintro e w1 ⟨g, rfl, hg, hi, hb, -⟩
    rw [HEN.out] at hi
    go_wp2_with fail
    refine (in_num g x.epoch 4 _ w1 hi (by omega) (by omega) hep).mono ?_
    rintro e w2 ⟨rfl, hi, ho⟩
    have hD := DecS.start hi (hb.trans (ho.below hb.size (fun i hi e => by omega))) hg ⟨3, x.epoch, ⟨#[]⟩, ⟨0, 0, 0, []⟩⟩
    unfold noteCells msgCells at hD
    dsimp only [List.cons_append, List.nil_append] at hD
    clear hi ho hb
    go_wp2_with fail
    refine (hD.num (by omega) (by omega) hui).mono ?_
    clear hD
    rintro e w3 ⟨rfl, hD⟩
    obtain ⟨⟨c0, c1, c2, c3, c4, c5, c6⟩, fr⟩ := hD.cells
    dsimp only at c0 c1 c2 c3 c4 c5 c6
    go_wp2_with fail
    have hD := hD.set 3 (.int .u32 (x.msg.uid : Int)) (y' := ⟨3, x.epoch, ⟨#[]⟩, ⟨x.msg.uid, 0, 0, []⟩⟩) (o' := .slice none 0 0) rfl ⟨_, _, _, rfl⟩
    clear c0 c1 c2 c3 c4 c5 c6 fr
    refine (in_left g _ _ hD.inp).mono ?_
    rintro e _ ⟨rfl, rfl⟩
    dsimp only
    go_wp2_with fail
    refine (hD.rest (by omega)).mono ?_
    clear hD
    rintro e w4 ⟨A', m, c', rfl, hmc, hr', hD, hfr⟩
    have HFR := Lib.hid hfr
    clear hfr
    obtain ⟨⟨c0, c1, c2, c3, c4, c5, c6⟩, fr⟩ := hD.cells
    dsimp only at c0 c1 c2 c3 c4 c5 c6
    go_wp2_with fail
    have hrk : RB (w4.setCell ⟨w2.heap.size, 6, none⟩ (.slice A' m c')) A' m x.msg.oct := by
      obtain ⟨Az, nz, cz, hz⟩ := hD.sl
      exact hr'.keep (only_set w4 w2.heap.size 6 _) (fun b hb => by subst hb; have := hD.nt; rw [hz] at this; exact noteNoB this)
    have hD := hD.set 6 (.slice A' m c') (y' := x) (o' := .slice A' m c') (by unfold noteCells msgCells; rw [HW0.out, (HPL.out.2 HW0.out).1, (HPL.out.2 HW0.out).2.1, (HPL.out.2 HW0.out).2.2.2]; rfl) ⟨_, _, _, rfl⟩
    clear c0 c1 c2 c3 c4 c5 c6 fr hr'
    obtain ⟨v, hv⟩ : ∃ v, v = w4.setCell ⟨w2.heap.size, 6, none⟩ (.slice A' m c') := ⟨_, rfl⟩
    rw [← hv] at hrk hD ⊢
    clear hv
    refine (in_bad g _ _ hD.inp).mono ?_
    rintro e _ ⟨rfl, rfl⟩
    dsimp only
    obtain ⟨⟨c0, c1, c2, c3, c4, c5, c6⟩, fr⟩ := hD.cells
    rw [HW0.out] at c0
    go_wp2_with fail
    have hF := formed_any x A' m c' hrk.1.symm (by have := hrk.1; omega) (by omega) (by have := HDT.out; omega) (by have := HDT.out; omega) v ((HE.out.below HB.out).below hD.below)
    unfold noteV noteCells msgCells at hF
    dsimp only [List.cons_append, List.nil_append] at hF
    rw [HW0.out, HF.out] at hF
    refine hF.mono ?_
    clear hF
    rintro e v2 ⟨rfl, hb2⟩
    obtain ⟨c0, c1, c2, c3, c4, c5, c6⟩ := (hD.cells.1).later hb2
    rw [HW0.out] at c0
    have hB2 := hD.below.trans (hb2.mono hD.below.size)
    go_wp2_with fail
    have hF := encode_any x A' m c' HF.out HW.out v2 (hrk.below hb2) ((HE.out.below HB.out).below hB2)
    unfold noteV noteCells msgCells at hF
    dsimp only [List.cons_append, List.nil_append] at hF
    rw [HW0.out] at hF
    refine hF.mono ?_
    clear hF
    rintro e v3 ⟨A2, n2, c2', rfl, hown, hb3⟩
    have hB3 := hB2.trans (hb3.mono hB2.size)
    obtain ⟨d0, d1, d2, d3, d4, d5, d6⟩ := ((hD.cells.1).later hb2).later hb3
    rw [HW0.out] at d0
    clear c0 c1 c2 c3 c4 c5 c6 fr
    go_wp2_with fail
    refine (equal_any A2 A n2 c2' n c _ _ v3 hown.read ((HR.out.below HB.out).below hB3)).mono ?_
    rintro e v4 ⟨rfl, hv4⟩
    subst hv4
    rw [decide_eq_true rfl]
    have R0 : v4.cell? ⟨w.heap.size, 0, none⟩ = some (.int .i64 0) := cell_later hB3 (cell_new w _ 134 rfl)
    have R1 : v4.cell? ⟨w.heap.size, 1, none⟩ = some (.int .u32 0) := cell_later hB3 (cell_new w _ 134 rfl)
    have R2 : v4.cell? ⟨w.heap.size, 2, none⟩ = some (.string ⟨#[]⟩) := cell_later hB3 (cell_new w _ 134 rfl)
    have R3 : v4.cell? ⟨w.heap.size, 3, none⟩ = some (.int .u32 0) := cell_later hB3 (cell_new w _ 134 rfl)
    have R4 : v4.cell? ⟨w.heap.size, 4, none⟩ = some (.int .i64 0) := cell_later hB3 (cell_new w _ 134 rfl)
    have R5 : v4.cell? ⟨w.heap.size, 5, none⟩ = some (.int .i64 0) := cell_later hB3 (cell_new w _ 134 rfl)
    have R6 : v4.cell? ⟨w.heap.size, 6, none⟩ = some (.slice none 0 0) := cell_later hB3 (cell_new w _ 134 rfl)
    have RH : v4.heap[w.heap.size]? = some (.cells #[.int .i64 0, .int .u32 0, .string ⟨#[]⟩, .int .u32 0, .int .i64 0, .int .i64 0, .slice none 0 0] 134 (0, 0)) := (hB3.block _ (by simp)).trans (heap_alloc_new w _)
    have RF : ∀ j, v4.frozen? ⟨w.heap.size, j, none⟩ = false := fun j => by simp [World.frozen?, RH]
    have hrf := ((hrk.below hb2).below hb3)
    have hBw := HB.out.trans (hB3.mono HB.out.size)
    have HRF := Lib.hid hrf
    have HBW := Lib.hid hBw
    have HRH := Lib.hid RH
    clear hrf hBw RH hB3 hb3 hb2 hB2 hown hD hrk
    go_wp2_with fail
    obtain ⟨w5, hw5⟩ : ∃ w5, w5 = (((((((v4.setCell ⟨w.heap.size, 0, none⟩ (.int .i64 3)).setCell ⟨w.heap.size, 1, none⟩ (.int .u32 (x.epoch : Int))).setCell ⟨w.heap.size, 2, none⟩ (.string x.name)).setCell ⟨w.heap.size, 3, none⟩ (.int .u32 (x.msg.uid : Int))).setCell ⟨w.heap.size, 4, none⟩ (.int .i64 x.msg.date)).setCell ⟨w.heap.size, 5, none⟩ (.int .i64 x.msg.flags)).setCell ⟨w.heap.size, 6, none⟩ (.slice A' m c')) := ⟨_, rfl⟩
    rw [← hw5]
    have hO5 : Only (fun k => k = w.heap.size) v4 w5 := by
      rw [hw5]
      exact (((((((Only.refl (fun k => k = w.heap.size) v4).setCell (p := ⟨w.heap.size, 0, none⟩) (.inl rfl) _).setCell (p := ⟨w.heap.size, 1, none⟩) (.inl rfl) _).setCell (p := ⟨w.heap.size, 2, none⟩) (.inl rfl) _).setCell (p := ⟨w.heap.size, 3, none⟩) (.inl rfl) _).setCell (p := ⟨w.heap.size, 4, none⟩) (.inl rfl) _).setCell (p := ⟨w.heap.size, 5, none⟩) (.inl rfl) _).setCell (p := ⟨w.heap.size, 6, none⟩) (.inl rfl) _
    have hH5 : w5.heap[w.heap.size]? = some (.cells #[.int .i64 3, .int .u32 (x.epoch : Int), .string x.name, .int .u32 (x.msg.uid : Int), .int .i64 x.msg.date, .int .i64 x.msg.flags, .slice A' m c'] 134 (0, 0)) := by
      rw [hw5]
      exact blk_set (blk_set (blk_set (blk_set (blk_set (blk_set (blk_set HRH.out 0 _) 1 _) 2 _) 3 _) 4 _) 5 _) 6 _
    have hnb : NoB v4 w.heap.size := NoB.cells HRH.out (fun j x e => by
      rw [List.getElem?_toArray] at e
      rcases j with _ | _ | _ | _ | _ | _ | _ | j <;> simp at e)
    have hrb5 := HRF.out.keep hO5 (fun b hb => hb ▸ hnb)
    have hbw5 := HBW.out.trans (hO5.below HBW.out.size (fun i hi e => by omega))
    have HRB5 := Lib.hid hrb5
    have HBW5 := Lib.hid hbw5
    have HH5 := Lib.hid hH5
    clear hw5 hO5 hnb hrb5 hbw5 R0 R1 R2 R3 R4 R5 R6 RF d0 d1 d2 d3 d4 d5 d6 hH5
    try simp only [Exit.inBlock, Exit.then]
    refine bodyPost_ret (results_cell_tmp_row rfl _ _ w.heap.size 134 _ (0, 0) rfl HH5.out row134 size134) rfl ?_
    exact ⟨A', m, c', by rw [← HW0.out]; rfl, HRB5.out, hmc, HBW5.out, fun q hq => Nat.le_trans HB.out.size (HFR.out q hq)⟩
end Go.Proofs.YtlhaempecidohaaGreatDoor
