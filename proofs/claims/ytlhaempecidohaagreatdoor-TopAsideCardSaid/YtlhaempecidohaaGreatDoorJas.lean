/-
  Package codec, type Out: Raw, Text, End; type In: Text. Package page: Put, Get; bytes.Equal; the reference's Page; the statements' own 'awake' of layer 5.
-/
import Derived.Test.YtlhaempecidohaaGreatDoorJam
import Derived.Test.YtlhaempecidohaaGreatDoorJag
import Derived.Test.YtlhaempecidohaaGreatDoorJae
import Derived.Lib.SmallJoins
import Derived.Test.YtlhaempecidohaaGreatDoorJac
import Derived.Test.YtlhaempecidohaaGreatDoorJaa
set_option linter.unusedSimpArgs false
set_option linter.unusedVariables false
namespace Go.Proofs.YtlhaempecidohaaGreatDoor
open Go.RowKit
set_option maxHeartbeats 400000 in
theorem out_raw (g base : Nat) (A : Option Addr) (n c : Nat) (l : List Nat) (sp : Bool) (X : Option Addr) (m cx : Nat) (news : List Nat) (w : World)
    (h : OutS w g base A n c l sp) (hbase : base ≤ w.heap.size) (hr : RB w X m news) (hlen : n + m ≤ 20000000) :
    Calls Tryz.prog 197 #[.pointer (some ⟨g, 0, none⟩), .slice X m cx] w (Outs w g base A (l ++ news) sp) := by
  have hg := h.1
  have hown := h.2
  have c0 : w.cell? ⟨g, 0, none⟩ = some (.slice A n c) := cell_of_row w g 0 _ _ _ hg
  have HG := Lib.hid hg
  have H := Lib.hid h
  have hne : ¬ blk A = some g := h.ne
  clear hg h
  go_enter Tryz.func197, Tryz.ntmps197
  go_wp2_with (at_builtin; refine wpList_append_rb rfl _ _ rfl rfl rfl hown hr hlen hbase ?_; intro A2 c2 w2 hown2 hon2 hbk2; have hrow := hon2.row HG.out hne; have g0 := hrow.1 0; have g1 := hrow.2.1 0; clear hrow; simp only [List.getElem?_toArray, List.getElem?_cons_zero] at g0)
  go_end0
  have R := out_step H.out (Only.refl _ w) (fun k hk => .inl hk) (Only.refl _ w) hown2 hon2 hbk2
  exact ⟨A2, n + m, c2, rfl, R.1, R.2.1, R.2.2⟩
/-- What a call leaves that answers a new slice of bytes, l, and an error number. -/
def Ended (w : World) (l : List Nat) (k : Int) (e : Ending) (w' : World) : Prop :=
  ∃ A n c, e = .returned (.tuple #[.slice A n c, .int .i64 k]) ∧ Own w' w.heap.size A n c l ∧ Below w.heap.size w w'
set_option maxHeartbeats 400000 in
theorem out_end (g base : Nat) (A : Option Addr) (n c : Nat) (l : List Nat) (w : World) (h : OutS w g base A n c l false) (hlen : n ≤ 10000000) :
    Calls Tryz.prog 198 #[.pointer (some ⟨g, 0, none⟩)] w (Ended w l 0) := by
  have hg := h.1
  have c0 : w.cell? ⟨g, 0, none⟩ = some (.slice A n c) := cell_of_row w g 0 _ _ _ hg
  have c1 : w.cell? ⟨g, 1, none⟩ = some (.bool false) := cell_of_row w g 1 _ _ _ hg
  have hr := h.2.read
  clear hg h
  go_enter Tryz.func198, Tryz.ntmps198
  go_wp2_with fail
  refine (sclone A n c l w hr hlen).mono ?_
  rintro e w1 ⟨A', c', rfl, hown, hb⟩
  go_wp2
  go_ret2
  exact ⟨A', n, c', rfl, hown, hb⟩
set_option maxHeartbeats 400000 in
theorem out_end_bad (g base : Nat) (A : Option Addr) (n c : Nat) (l : List Nat) (w : World) (h : OutS w g base A n c l true) :
    Calls Tryz.prog 198 #[.pointer (some ⟨g, 0, none⟩)] w (Ended w [] 1) := by
  have hg := h.1
  have c1 : w.cell? ⟨g, 1, none⟩ = some (.bool true) := cell_of_row w g 1 _ _ _ hg
  clear hg h
  go_enter Tryz.func198, Tryz.ntmps198
  go_wp2
  go_ret2
  exact ⟨none, 0, 0, rfl, Own.nil _ _, Below.refl _ _⟩
theorem outs_trans {w w1 w' : World} {g base n c : Nat} {A A1 : Option Addr} {l l' : List Nat} {sp sp' : Bool} {e : Ending}
    (_h1 : OutS w1 g base A1 n c l sp) (ho : Only (OS g A) w w1) (hb : ∀ k, blk A1 = some k → blk A = some k ∨ w.heap.size ≤ k) (h : Outs w1 g base A1 l' sp' e w') : Outs w g base A l' sp' e w' := by
  obtain ⟨A2, n2, c2, he, h2, h3, h4⟩ := h
  refine ⟨A2, n2, c2, he, h2, ho.trans h3 (fun k hk hs => ?_), fun k hk => ?_⟩
  · rcases hs with hs | hs
    · exact .inl hs
    · rcases hb k hs with h | h
      · exact .inr h
      · omega
  · rcases h4 k hk with h | h
    · exact hb k h
    · have := ho.size
      exact .inr (by omega)
/-- 'Text': the two bytes of its length, and its bytes. -/
def lenB (n : Nat) : List Nat := if n < 65536 then beb n 2 else []
set_option maxHeartbeats 400000 in
theorem out_text (g base : Nat) (A : Option Addr) (n c : Nat) (l : List Nat) (sp : Bool) (s : ByteArray) (w : World)
    (h : OutS w g base A n c l sp) (hbase : base ≤ w.heap.size) (hlen : n + s.size ≤ 10000000) :
    Calls Tryz.prog 140 #[.pointer (some ⟨g, 0, none⟩), .string s] w (Outs w g base A (l ++ lenB s.size ++ ofStr s) (sp || decide (65536 ≤ s.size))) := by
  have hrb := run_bytes s
  have hN : Calls Tryz.prog 141 #[.pointer (some ⟨g, 0, none⟩), .int .i64 (s.size : Int), .int .i64 2] w (Outs w g base A (l ++ lenB s.size) (sp || decide (65536 ≤ s.size))) := by
    by_cases hs : s.size < 65536
    · have := out_n_loop g base A n c l sp s.size 2 w h hbase (by omega) (by omega) (by simpa using hs) (by omega)
      rw [lenB, if_pos hs, decide_eq_false (by omega), Bool.or_false]
      exact this
    · have := out_n_bad g base A n c l sp s.size 2 w h (by omega) (by omega) (by simp; omega)
      rw [lenB, if_neg hs, decide_eq_true (by omega), Bool.or_true, List.append_nil]
      exact this
  have HN := Lib.hid hN
  clear hN
  have hll := h.2.1
  clear h
  generalize (sp || decide (65536 ≤ s.size)) = sp' at *
  go_enter Tryz.func140, Tryz.ntmps140
  go_wp2_with fail
  refine HN.out.mono ?_
  rintro e w1 ⟨A1, n1, c1, rfl, h1, ho1, hb1⟩
  have HO1 := Lib.hid ho1
  have HB1 := Lib.hid hb1
  have h63 := h1.2.1
  have HH := Lib.hid h1
  have hsz := ho1.size
  clear ho1 hb1 h1
  have hln : (lenB s.size).length ≤ 2 := by unfold lenB; split <;> simp [beb_length]
  have hn1 : n1 ≤ n + 2 := by rw [← h63, List.length_append, hll]; omega
  clear h63 hll hln
  go_wp2_with fail
  have h2 : OutS (w1.drew.alloc (bobj w1 s)) g base A1 n1 c1 (l ++ lenB s.size) sp' := HH.out.below ((Below.refl _ w1).drew.alloc (Nat.le_refl _) _)
  have hRB : RB (w1.drew.alloc (bobj w1 s)) (some ⟨w1.heap.size, 0, none⟩) s.size (ofStr s) := RB.bytes w1.drew w1 s
  refine (out_raw g base A1 n1 c1 (l ++ lenB s.size) sp' (some ⟨w1.heap.size, 0, none⟩) s.size _ (ofStr s) _ h2 (by simp; omega) hRB (by omega)).mono ?_
  rintro e w2 hR
  have hO : Only (OS g A) w (w1.drew.alloc (bobj w1 s)) := HO1.out.drew.alloc _
  have hfin := outs_trans h2 hO HB1.out hR
  obtain ⟨_, _, _, rfl, _⟩ := hR
  go_wp2
  go_end0
  exact hfin
def TextGot (K : Nat → Prop) (w : World) (g : Nat) (i : InM) (e : Ending) (w' : World) : Prop :=
  e = .returned (.string (str ((i.rest 2).got (num (i.got 2))))) ∧ InP K w' g ((i.rest 2).rest (num (i.got 2))) ∧ Only (fun k => k = g) w w'
set_option maxHeartbeats 400000 in
theorem in_text {K : Nat → Prop} (g : Nat) (i : InM) (w : World) (h : InP K w g i) :
    Calls Tryz.prog 116 #[.pointer (some ⟨g, 0, none⟩)] w (TextGot K w g i) := by
  go_enter Tryz.func116, Tryz.ntmps116
  go_wp2_with fail
  refine (in_n g i 2 w h).mono ?_
  rintro e w1 ⟨rfl, hi, ho⟩
  have e2 : sizeN 2 = 2 := rfl
  rw [e2] at hi
  go_wp2_with fail
  refine (take_any g (i.rest 2) _ w1 hi).mono ?_
  rintro e w2 ⟨A, m, c, rfl, hmc, hr, hi2, ho2⟩
  have hconv := conv_rb hr c
  go_wp2
  go_ret
  exact ⟨rfl, hi2, ho.trans ho2 (fun _ _ h => h)⟩
end Go.Proofs.YtlhaempecidohaaGreatDoor
namespace Go.Proofs.YtlhaempecidohaaGreatDoor
open Go.RowKit
theorem outs_below {B : Nat} {w w1 w2 : World} {g base n c : Nat} {A : Option Addr} {l : List Nat} {sp : Bool} (hb : Below B w w1) (h : OutS w1 g base A n c l sp) (hg : B ≤ g) (hbase : B ≤ base)
    (hB : B ≤ w1.heap.size) (ho : Only (OS g A) w1 w2) : Below B w w2 :=
  hb.trans (ho.below hB (fun i hi e => by
    rcases e with e | e
    · omega
    · have := (h.2.lt i e).1; omega))
set_option maxHeartbeats 1000000 in
theorem put_ok (k : Nat) (A : Option Addr) (n c : Nat) (p : List Nat) (w : World) (h : RB w A n p) (h1 : 1 ≤ k) (h2 : k ≤ 3) (h3 : n ≤ 60000) :
    Calls Tryz.prog 179 #[.int .i64 (k : Int), .slice A n c] w (Ended w (page k p) 0) := by
  have kc := fun (w : World) (C : Array Value) (n c g : Nat) (hg : g = w.heap.size) => Joins.run_convert_bytes_const_at (P := Tryz.prog) w 23 5 C n c g hg Tryz.underlying23 Tryz.underlying5
  have hlen := h.1
  have hp := h.2.1
  have t1 : decide ((k : Int) < 1) = false := by simp; omega
  have t2 : decide (3 < (k : Int)) = false := by simp; omega
  have hO : OutS (w.alloc (.cells #[.slice none 0 0, .bool false] 229)) w.heap.size (w.heap.size + 1) none 0 0 [] false := ⟨heap_alloc_new w _, Own.nil _ _⟩
  have hb0 : Below w.heap.size w (w.alloc (.cells #[.slice none 0 0, .bool false] 229)) := (Below.refl _ w).alloc (Nat.le_refl _) _
  have H := Lib.hid h
  have HL := Lib.hid hlen
  clear h hlen
  go_enter Tryz.func179, Tryz.ntmps179
  go_wp2_with fail
  have hO1 := (hO.below ((Below.refl _ _).alloc (Nat.le_refl _) (.cells #[.int .u8 112, .int .u8 97, .int .u8 103] 5 (3, 4))))
  have hb1 := hb0.alloc (by simp) (.cells #[.int .u8 112, .int .u8 97, .int .u8 103] 5 (3, 4))
  have hR1 : RB ((w.alloc (.cells #[.slice none 0 0, .bool false] 229)).alloc (.cells #[.int .u8 112, .int .u8 97, .int .u8 103] 5 (3, 4))) (some ⟨w.heap.size + 1, 0, none⟩) 3 [112, 97, 103] := by
    have := RB.new (w.alloc (.cells #[.slice none 0 0, .bool false] 229)) #[.int .u8 112, .int .u8 97, .int .u8 103] 5 (3, 4) [112, 97, 103] rfl (by decide)
    simpa using this
  refine (out_raw w.heap.size (w.heap.size + 1) none 0 0 [] false _ 3 3 [112, 97, 103] _ hO1 (by simp) hR1 (by omega)).mono ?_
  rintro e w1 ⟨A1, n1, c1, rfl, hO2, ho2, -⟩
  have hb2 := outs_below hb1 hO1 (Nat.le_refl _) (by omega) (by simp; omega) ho2
  obtain rfl : n1 = 3 := hO2.2.1.symm
  clear hO hb0 hO1 hb1 hR1 ho2
  go_wp2_with fail
  refine (out_n_loop w.heap.size (w.heap.size + 1) A1 3 c1 _ false k 1 _ hO2 (by have := hb2.size; have := (Array.getElem?_eq_some_iff.1 hO2.1).1; omega) (by omega) (by omega) (by omega) (by omega)).mono ?_
  rintro e w2 ⟨A2, n2, c2, rfl, hO3, ho3, -⟩
  have hb3 := outs_below hb2 hO2 (Nat.le_refl _) (by omega) hb2.size ho3
  obtain rfl : n2 = 4 := hO3.2.1.symm
  clear hO2 hb2 ho3
  go_wp2_with fail
  refine (out_n_loop w.heap.size (w.heap.size + 1) A2 4 c2 _ false n 4 _ hO3 (by have := hb3.size; have := (Array.getElem?_eq_some_iff.1 hO3.1).1; omega) (by omega) (by omega) (by omega) (by omega)).mono ?_
  rintro e w3 ⟨A3, n3, c3, rfl, hO4, ho4, -⟩
  have hb4 := outs_below hb3 hO3 (Nat.le_refl _) (by omega) hb3.size ho4
  obtain rfl : n3 = 8 := hO4.2.1.symm
  clear hO3 hb3 ho4
  go_wp2_with fail
  refine (out_raw w.heap.size (w.heap.size + 1) A3 8 c3 _ false A n c p _ hO4 (by have := hb4.size; have := (Array.getElem?_eq_some_iff.1 hO4.1).1; omega) (H.out.below hb4) (by omega)).mono ?_
  rintro e w4 ⟨A4, n4, c4, rfl, hO5, ho5, -⟩
  have hb5 := outs_below hb4 hO4 (Nat.le_refl _) (by omega) hb4.size ho5
  have hl5 : [] ++ [112, 97, 103] ++ beb k 1 ++ beb n 4 ++ p = pageH k p := by rw [pageH, HL.out, List.nil_append]
  rw [hl5] at hO5
  obtain rfl : n4 = n + 8 := by rw [← hO5.2.1, pageH_length, HL.out]
  clear hO4 hb4 ho5 hl5
  go_wp2_with fail
  refine (out_end w.heap.size (w.heap.size + 1) A4 (n + 8) c4 _ w4 hO5 (by omega)).mono ?_
  rintro e w5 ⟨A5, n5, c5, rfl, hown5, hb6⟩
  obtain rfl : n5 = n + 8 := by rw [← hown5.1, pageH_length, HL.out]
  have hO6 := hO5.below hb6
  have hb7 := hb5.trans (hb6.mono hb5.size)
  have hr5 := hown5.read
  clear hO5 hb5 hb6 hown5
  go_wp2_with fail
  refine (crc_any A5 (n + 8) c5 (pageH k p) w5 hr5 (by omega)).mono ?_
  rintro e w6 ⟨rfl, rfl⟩
  have hcrc := Crc.crc_lt (pageH k p) (pageH_lt k p hp)
  go_wp2_with fail
  refine (out_n_loop w.heap.size (w.heap.size + 1) A4 (n + 8) c4 _ false (Crc.crc (pageH k p)) 4 _ hO6 (by have := hb7.size; have := (Array.getElem?_eq_some_iff.1 hO6.1).1; omega) (by omega) (by omega) (by simpa using hcrc) (by omega)).mono ?_
  rintro e w6 ⟨A6, n6, c6, rfl, hO7, ho7, -⟩
  have hb8 := outs_below hb7 hO6 (Nat.le_refl _) (by omega) hb7.size ho7
  have hO8 : OutS w6 w.heap.size (w.heap.size + 1) A6 n6 c6 (page k p) false := hO7
  have hn6 : n6 = n + 12 := by rw [← hO8.2.1, page_length, HL.out]
  clear hO6 hb7 ho7 hO7 hr5
  go_wp2_with fail
  refine (out_end w.heap.size (w.heap.size + 1) A6 n6 c6 _ w6 hO8 (by omega)).mono ?_
  rintro e w7 ⟨A7, n7, c7, rfl, hown7, hb9⟩
  have hfin := hb8.trans (hb9.mono hb8.size)
  have hown := Own.more (B := w.heap.size) hown7 (fun j hj => Nat.le_trans hb8.size (hown7.lt j hj).1)
  clear hown7 hb9 hb8 hO8
  go_wp2
  go_ret2
  exact ⟨A7, n7, c7, rfl, hown, hfin⟩
set_option maxHeartbeats 400000 in
theorem put_arg (k : Int) (A : Option Addr) (n c : Nat) (w : World) (h : k < 1 ∨ 3 < k) :
    Calls Tryz.prog 179 #[.int .i64 k, .slice A n c] w (Ended w [] 1) := by
  by_cases h1 : k < 1
  · clear h
    go_enter Tryz.func179, Tryz.ntmps179
    go_wp2
    go_ret2
    exact ⟨none, 0, 0, rfl, Own.nil _ _, Below.refl _ _⟩
  · have h2 : 3 < k := by omega
    clear h
    go_enter Tryz.func179, Tryz.ntmps179
    go_wp2
    go_ret2
    exact ⟨none, 0, 0, rfl, Own.nil _ _, Below.refl _ _⟩
set_option maxHeartbeats 400000 in
theorem put_long (k : Int) (A : Option Addr) (n c : Nat) (w : World) (h1 : 1 ≤ k) (h2 : k ≤ 3) (h : 60000 < n) :
    Calls Tryz.prog 179 #[.int .i64 k, .slice A n c] w (Ended w [] 3) := by
  go_enter Tryz.func179, Tryz.ntmps179
  go_wp2
  go_ret2
  exact ⟨none, 0, 0, rfl, Own.nil _ _, Below.refl _ _⟩
set_option maxHeartbeats 400000 in
theorem bequal_t (A : Option Addr) (n c : Nat) (B : Option Addr) (m d : Nat) (l : List Nat) (w : World) (h1 : RB w A n l) (h2 : RB w B m l) :
    Calls Tryz.prog 82 #[.slice A n c, .slice B m d] w fun e w' => e = .returned (.bool true) ∧ w = w' := by
  have k1 := conv_rb h1 c
  have k2 := conv_rb h2 d
  clear h1 h2
  go_enter Tryz.func82, Tryz.ntmps82
  go_wp2
  go_ret
  exact ⟨by simp, rfl⟩
set_option maxHeartbeats 400000 in
theorem bequal_f (A : Option Addr) (n c : Nat) (B : Option Addr) (m d : Nat) (l l2 : List Nat) (w : World) (h1 : RB w A n l) (h2 : RB w B m l2) (hne : l ≠ l2) :
    Calls Tryz.prog 82 #[.slice A n c, .slice B m d] w fun e w' => e = .returned (.bool false) ∧ w = w' := by
  have k1 := conv_rb h1 c
  have k2 := conv_rb h2 d
  have hs := str_ne h1.2.1 h2.2.1 hne
  clear h1 h2
  go_enter Tryz.func82, Tryz.ntmps82
  go_wp2
  go_ret
  exact ⟨rfl, rfl⟩
theorem slice_8_4 (A : Option Addr) (n c : Nat) (h : 12 ≤ n) (hc : n ≤ c) (w : World) :
    (Instr.slice 23 (.slice A n c) (some (.int .i64 8)) (some (.int .i64 ((n : Int) - 4))) none).run Tryz.prog w = .ok (.slice (cut A c 8) (n - 4 - 8) (c - 8)) w := by
  have := slice_lh A n c 8 (n - 4) (by omega) (by omega) w
  rwa [show ((n - 4 : Nat) : Int) = (n : Int) - 4 from by omega] at this
set_option maxHeartbeats 400000 in
theorem get_short (k : Int) (A : Option Addr) (n c : Nat) (w : World) (h : n < 12) : Calls Tryz.prog 113 #[.int .i64 k, .slice A n c] w (Ended w [] 9) := by
  go_enter Tryz.func113, Tryz.ntmps113
  go_wp2
  go_ret2
  exact ⟨none, 0, 0, rfl, Own.nil _ _, Below.refl _ _⟩
set_option maxHeartbeats 1000000 in
theorem get_ok (k : Int) (A : Option Addr) (n c : Nat) (b : List Nat) (w : World) (h : RB w A n b) (hc : n ≤ c) (hn : n ≤ 100000) (hp : isPage k b) :
    Calls Tryz.prog 113 #[.int .i64 k, .slice A n c] w (Ended w (payload b) 0) := by
  obtain ⟨p1, p2, p3, p4, p5⟩ := hp
  have hl := h.1
  obtain ⟨j, rfl⟩ := Int.eq_ofNat_of_zero_le (show 0 ≤ k by omega)
  rw [Int.toNat_natCast] at p5
  have hr : RB w (cut A c 8) (n - 4 - 8) (payload b) := by
    have := h.mid (lo := 8) (hi := n - 4) (cap := c) (by omega) (by omega) hc
    rw [← hl] at this
    rw [← hl]
    exact this
  have hrun := slice_8_4 A n c (by omega) hc
  have hpl := hr.1
  have H := Lib.hid h
  have P := Lib.hid p5
  clear h p5
  go_enter Tryz.func113, Tryz.ntmps113
  go_wp2_with fail
  refine (put_ok j (cut A c 8) (n - 4 - 8) (c - 8) (payload b) w hr (by omega) (by omega) (by omega)).mono ?_
  rintro e w1 ⟨A1, n1, c1, rfl, hown, hb⟩
  have hr1 := hown.read
  rw [P.out] at hr1
  have HR := Lib.hid (hr.below hb)
  have H1 := H.out.below hb
  clear hown hr
  go_wp2_with fail
  refine (bequal_t A1 n1 c1 A n c b w1 hr1 H1).mono ?_
  rintro e w2 ⟨rfl, rfl⟩
  clear hr1 H1
  go_wp2_with fail
  refine (bclone (cut A c 8) (n - 4 - 8) (c - 8) (payload b) w1 HR.out (by omega)).mono ?_
  rintro e w2 ⟨A2, c2, rfl, hown2, hb2⟩
  have hown := Own.more (B := w.heap.size) hown2 (fun j hj => Nat.le_trans hb.size (hown2.lt j hj).1)
  have hfin := hb.trans (hb2.mono hb.size)
  clear hown2 hb hb2
  go_wp2
  go_ret2
  exact ⟨A2, _, c2, rfl, hown, hfin⟩
set_option maxHeartbeats 1000000 in
theorem get_bad (k : Int) (A : Option Addr) (n c : Nat) (b : List Nat) (w : World) (h : RB w A n b) (hc : n ≤ c) (hn : n ≤ 100000) (hp : ¬ isPage k b) :
    Calls Tryz.prog 113 #[.int .i64 k, .slice A n c] w (Ended w [] 9) := by
  have hl := h.1
  by_cases h12 : n < 12
  · exact get_short k A n c w h12
  · have hr : RB w (cut A c 8) (n - 4 - 8) (payload b) := by
      have := h.mid (lo := 8) (hi := n - 4) (cap := c) (by omega) (by omega) hc
      rw [← hl] at this
      rw [← hl]
      exact this
    have hrun := slice_8_4 A n c (by omega) hc
    have hpl := hr.1
    have H := Lib.hid h
    by_cases hk : k < 1 ∨ 3 < k
    · clear h
      go_enter Tryz.func113, Tryz.ntmps113
      go_wp2_with fail
      refine (put_arg k (cut A c 8) (n - 4 - 8) (c - 8) w hk).mono ?_
      rintro e w1 ⟨A1, n1, c1, rfl, hown, hb⟩
      go_wp2
      go_ret2
      exact ⟨none, 0, 0, rfl, Own.nil _ _, hb⟩
    · by_cases hlong : 60000 < n - 4 - 8
      · clear h
        go_enter Tryz.func113, Tryz.ntmps113
        go_wp2_with fail
        refine (put_long k (cut A c 8) (n - 4 - 8) (c - 8) w (by omega) (by omega) hlong).mono ?_
        rintro e w1 ⟨A1, n1, c1, rfl, hown, hb⟩
        go_wp2
        go_ret2
        exact ⟨none, 0, 0, rfl, Own.nil _ _, hb⟩
      · obtain ⟨j, rfl⟩ := Int.eq_ofNat_of_zero_le (show 0 ≤ k by omega)
        have hne : page j (payload b) ≠ b := by
          intro e
          exact hp ⟨by omega, by omega, by omega, by omega, by rw [Int.toNat_natCast]; exact e⟩
        have HNE := Lib.hid hne
        clear h hne
        go_enter Tryz.func113, Tryz.ntmps113
        go_wp2_with fail
        refine (put_ok j (cut A c 8) (n - 4 - 8) (c - 8) (payload b) w hr (by omega) (by omega) (by omega)).mono ?_
        rintro e w1 ⟨A1, n1, c1, rfl, hown, hb⟩
        have hr1 := hown.read
        have H1 := H.out.below hb
        clear hown hr
        go_wp2_with fail
        refine (bequal_f A1 n1 c1 A n c _ b w1 hr1 H1 HNE.out).mono ?_
        rintro e w2 ⟨rfl, rfl⟩
        go_wp2
        go_ret2
        exact ⟨none, 0, 0, rfl, Own.nil _ _, hb⟩
end Go.Proofs.YtlhaempecidohaaGreatDoor
