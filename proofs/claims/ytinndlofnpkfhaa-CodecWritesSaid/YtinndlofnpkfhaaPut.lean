/-
  Package page: Put, Get; bytes.Equal; the reference's Page; the statements' own 'awake' of layer 5.
-/
import Derived.Test.YtinndlofnpkfhaaRef
import Derived.Test.YtinndlofnpkfhaaSumRef
import Derived.Test.YtinndlofnpkfhaaPg
import Derived.Lib.SmallJoins
namespace Go.Proofs.Ytinndlofnpkfhaa
open Go.RowKit

theorem outs_below {B : Nat} {w w1 w2 : World} {g base n c : Nat} {A : Option Addr} {l : List Nat} {sp : Bool} (hb : Below B w w1) (h : OutS w1 g base A n c l sp) (hg : B ≤ g) (hbase : B ≤ base)
    (hB : B ≤ w1.heap.size) (ho : Only (OS g A) w1 w2) : Below B w w2 :=
  hb.trans (ho.below hB (fun i hi e => by
    rcases e with e | e
    · omega
    · have := (h.2.lt i e).1; omega))

set_option maxHeartbeats 1000000 in
theorem put_ok (k : Nat) (A : Option Addr) (n c : Nat) (p : List Nat) (w : World) (h : RB w A n p) (h1 : 1 ≤ k) (h2 : k ≤ 3) (h3 : n ≤ 60000) :
    Calls Try.prog 36 #[.int .i64 (k : Int), .slice A n c] w (Ended w (page k p) 0) := by
  have kc := fun (w : World) (C : Array Value) (n c g : Nat) (hg : g = w.heap.size) => Joins.run_convert_bytes_const_at (P := Try.prog) w 22 5 C n c g hg Try.underlying22 Try.underlying5
  have hlen := h.1
  have hp := h.2.1
  have t1 : decide ((k : Int) < 1) = false := by simp; omega
  have t2 : decide (3 < (k : Int)) = false := by simp; omega
  have hO : OutS (w.alloc (.cells #[.slice none 0 0, .bool false] 40)) w.heap.size (w.heap.size + 1) none 0 0 [] false := ⟨heap_alloc_new w _, Own.nil _ _⟩
  have hb0 : Below w.heap.size w (w.alloc (.cells #[.slice none 0 0, .bool false] 40)) := (Below.refl _ w).alloc (Nat.le_refl _) _
  have H := Lib.hid h
  have HL := Lib.hid hlen
  clear h hlen
  go_enter Try.func36, Try.ntmps36
  go_wp2_with fail
  have hO1 := (hO.below ((Below.refl _ _).alloc (Nat.le_refl _) (.cells #[.int .u8 112, .int .u8 97, .int .u8 103] 5 (3, 4))))
  have hb1 := hb0.alloc (by simp) (.cells #[.int .u8 112, .int .u8 97, .int .u8 103] 5 (3, 4))
  have hR1 : RB ((w.alloc (.cells #[.slice none 0 0, .bool false] 40)).alloc (.cells #[.int .u8 112, .int .u8 97, .int .u8 103] 5 (3, 4))) (some ⟨w.heap.size + 1, 0, none⟩) 3 [112, 97, 103] := by
    have := RB.new (w.alloc (.cells #[.slice none 0 0, .bool false] 40)) #[.int .u8 112, .int .u8 97, .int .u8 103] 5 (3, 4) [112, 97, 103] rfl (by decide)
    simpa using this
  refine (out_raw w.heap.size (w.heap.size + 1) none 0 0 [] false _ 3 3 [112, 97, 103] _ hO1 (by simp) hR1 (by omega)).mono ?_
  rintro e w1 ⟨A1, n1, c1, rfl, hO2, ho2, -⟩
  have hb2 := outs_below hb1 hO1 (Nat.le_refl _) (by omega) (by simp; omega) ho2
  obtain rfl : n1 = 3 := hO2.2.1.symm
  clear hO hb0 hO1 hb1 hR1 ho2
  go_wp2_with fail
  refine (out_n_loop w.heap.size (w.heap.size + 1) A1 3 c1 _ false k 1 _ hO2 (by have := hb2.size; have := (Array.getElem?_eq_some_iff.1 hO2.1).1; omega) (by omega) (by omega) (by omega) (by omega)).mono ?_
  rintro e w2 ⟨A2, n2, c2, rfl, hO3, ho3, -⟩
  have hb3 := outs_below hb2 hO2 (Nat.le_refl _) (by omega) hb2.size ho3
  obtain rfl : n2 = 4 := hO3.2.1.symm
  clear hO2 hb2 ho3
  go_wp2_with fail
  refine (out_n_loop w.heap.size (w.heap.size + 1) A2 4 c2 _ false n 4 _ hO3 (by have := hb3.size; have := (Array.getElem?_eq_some_iff.1 hO3.1).1; omega) (by omega) (by omega) (by omega) (by omega)).mono ?_
  rintro e w3 ⟨A3, n3, c3, rfl, hO4, ho4, -⟩
  have hb4 := outs_below hb3 hO3 (Nat.le_refl _) (by omega) hb3.size ho4
  obtain rfl : n3 = 8 := hO4.2.1.symm
  clear hO3 hb3 ho4
  go_wp2_with fail
  refine (out_raw w.heap.size (w.heap.size + 1) A3 8 c3 _ false A n c p _ hO4 (by have := hb4.size; have := (Array.getElem?_eq_some_iff.1 hO4.1).1; omega) (H.out.below hb4) (by omega)).mono ?_
  rintro e w4 ⟨A4, n4, c4, rfl, hO5, ho5, -⟩
  have hb5 := outs_below hb4 hO4 (Nat.le_refl _) (by omega) hb4.size ho5
  have hl5 : [] ++ [112, 97, 103] ++ beb k 1 ++ beb n 4 ++ p = pageH k p := by rw [pageH, HL.out, List.nil_append]
  rw [hl5] at hO5
  obtain rfl : n4 = n + 8 := by rw [← hO5.2.1, pageH_length, HL.out]
  clear hO4 hb4 ho5 hl5
  go_wp2_with fail
  refine (out_end w.heap.size (w.heap.size + 1) A4 (n + 8) c4 _ w4 hO5 (by omega)).mono ?_
  rintro e w5 ⟨A5, n5, c5, rfl, hown5, hb6⟩
  obtain rfl : n5 = n + 8 := by rw [← hown5.1, pageH_length, HL.out]
  have hO6 := hO5.below hb6
  have hb7 := hb5.trans (hb6.mono hb5.size)
  have hr5 := hown5.read
  clear hO5 hb5 hb6 hown5
  go_wp2_with fail
  refine (crc_any A5 (n + 8) c5 (pageH k p) w5 hr5 (by omega)).mono ?_
  rintro e w6 ⟨rfl, rfl⟩
  have hcrc := Crc.crc_lt (pageH k p) (pageH_lt k p hp)
  go_wp2_with fail
  refine (out_n_loop w.heap.size (w.heap.size + 1) A4 (n + 8) c4 _ false (Crc.crc (pageH k p)) 4 _ hO6 (by have := hb7.size; have := (Array.getElem?_eq_some_iff.1 hO6.1).1; omega) (by omega) (by omega) (by simpa using hcrc) (by omega)).mono ?_
  rintro e w6 ⟨A6, n6, c6, rfl, hO7, ho7, -⟩
  have hb8 := outs_below hb7 hO6 (Nat.le_refl _) (by omega) hb7.size ho7
  have hO8 : OutS w6 w.heap.size (w.heap.size + 1) A6 n6 c6 (page k p) false := hO7
  have hn6 : n6 = n + 12 := by rw [← hO8.2.1, page_length, HL.out]
  clear hO6 hb7 ho7 hO7 hr5
  go_wp2_with fail
  refine (out_end w.heap.size (w.heap.size + 1) A6 n6 c6 _ w6 hO8 (by omega)).mono ?_
  rintro e w7 ⟨A7, n7, c7, rfl, hown7, hb9⟩
  have hfin := hb8.trans (hb9.mono hb8.size)
  have hown := Own.more (B := w.heap.size) hown7 (fun j hj => Nat.le_trans hb8.size (hown7.lt j hj).1)
  clear hown7 hb9 hb8 hO8
  go_wp2
  go_ret2
  exact ⟨A7, n7, c7, rfl, hown, hfin⟩

set_option maxHeartbeats 400000 in
theorem put_arg (k : Int) (A : Option Addr) (n c : Nat) (w : World) (h : k < 1 ∨ 3 < k) :
    Calls Try.prog 36 #[.int .i64 k, .slice A n c] w (Ended w [] 1) := by
  by_cases h1 : k < 1
  · clear h
    go_enter Try.func36, Try.ntmps36
    go_wp2
    go_ret2
    exact ⟨none, 0, 0, rfl, Own.nil _ _, Below.refl _ _⟩
  · have h2 : 3 < k := by omega
    clear h
    go_enter Try.func36, Try.ntmps36
    go_wp2
    go_ret2
    exact ⟨none, 0, 0, rfl, Own.nil _ _, Below.refl _ _⟩

set_option maxHeartbeats 400000 in
theorem put_long (k : Int) (A : Option Addr) (n c : Nat) (w : World) (h1 : 1 ≤ k) (h2 : k ≤ 3) (h : 60000 < n) :
    Calls Try.prog 36 #[.int .i64 k, .slice A n c] w (Ended w [] 3) := by
  go_enter Try.func36, Try.ntmps36
  go_wp2
  go_ret2
  exact ⟨none, 0, 0, rfl, Own.nil _ _, Below.refl _ _⟩

set_option maxHeartbeats 400000 in
theorem bequal_t (A : Option Addr) (n c : Nat) (B : Option Addr) (m d : Nat) (l : List Nat) (w : World) (h1 : RB w A n l) (h2 : RB w B m l) :
    Calls Try.prog 52 #[.slice A n c, .slice B m d] w fun e w' => e = .returned (.bool true) ∧ w = w' := by
  have k1 := conv_rb h1 c
  have k2 := conv_rb h2 d
  clear h1 h2
  go_enter Try.func52, Try.ntmps52
  go_wp2
  go_ret
  exact ⟨by simp, rfl⟩

set_option maxHeartbeats 400000 in
theorem bequal_f (A : Option Addr) (n c : Nat) (B : Option Addr) (m d : Nat) (l l2 : List Nat) (w : World) (h1 : RB w A n l) (h2 : RB w B m l2) (hne : l ≠ l2) :
    Calls Try.prog 52 #[.slice A n c, .slice B m d] w fun e w' => e = .returned (.bool false) ∧ w = w' := by
  have k1 := conv_rb h1 c
  have k2 := conv_rb h2 d
  have hs := str_ne h1.2.1 h2.2.1 hne
  clear h1 h2
  go_enter Try.func52, Try.ntmps52
  go_wp2
  go_ret
  exact ⟨rfl, rfl⟩

theorem slice_8_4 (A : Option Addr) (n c : Nat) (h : 12 ≤ n) (hc : n ≤ c) (w : World) :
    (Instr.slice 22 (.slice A n c) (some (.int .i64 8)) (some (.int .i64 ((n : Int) - 4))) none).run Try.prog w = .ok (.slice (cut A c 8) (n - 4 - 8) (c - 8)) w := by
  have := slice_lh A n c 8 (n - 4) (by omega) (by omega) w
  rwa [show ((n - 4 : Nat) : Int) = (n : Int) - 4 from by omega] at this

set_option maxHeartbeats 400000 in
theorem get_short (k : Int) (A : Option Addr) (n c : Nat) (w : World) (h : n < 12) : Calls Try.prog 37 #[.int .i64 k, .slice A n c] w (Ended w [] 9) := by
  go_enter Try.func37, Try.ntmps37
  go_wp2
  go_ret2
  exact ⟨none, 0, 0, rfl, Own.nil _ _, Below.refl _ _⟩

set_option maxHeartbeats 1000000 in
theorem get_ok (k : Int) (A : Option Addr) (n c : Nat) (b : List Nat) (w : World) (h : RB w A n b) (hc : n ≤ c) (hn : n ≤ 100000) (hp : isPage k b) :
    Calls Try.prog 37 #[.int .i64 k, .slice A n c] w (Ended w (payload b) 0) := by
  obtain ⟨p1, p2, p3, p4, p5⟩ := hp
  have hl := h.1
  obtain ⟨j, rfl⟩ := Int.eq_ofNat_of_zero_le (show 0 ≤ k by omega)
  rw [Int.toNat_natCast] at p5
  have hr : RB w (cut A c 8) (n - 4 - 8) (payload b) := by
    have := h.mid (lo := 8) (hi := n - 4) (cap := c) (by omega) (by omega) hc
    rw [← hl] at this
    rw [← hl]
    exact this
  have hrun := slice_8_4 A n c (by omega) hc
  have hpl := hr.1
  have H := Lib.hid h
  have P := Lib.hid p5
  clear h p5
  go_enter Try.func37, Try.ntmps37
  go_wp2_with fail
  refine (put_ok j (cut A c 8) (n - 4 - 8) (c - 8) (payload b) w hr (by omega) (by omega) (by omega)).mono ?_
  rintro e w1 ⟨A1, n1, c1, rfl, hown, hb⟩
  have hr1 := hown.read
  rw [P.out] at hr1
  have HR := Lib.hid (hr.below hb)
  have H1 := H.out.below hb
  clear hown hr
  go_wp2_with fail
  refine (bequal_t A1 n1 c1 A n c b w1 hr1 H1).mono ?_
  rintro e w2 ⟨rfl, rfl⟩
  clear hr1 H1
  go_wp2_with fail
  refine (bclone (cut A c 8) (n - 4 - 8) (c - 8) (payload b) w1 HR.out (by omega)).mono ?_
  rintro e w2 ⟨A2, c2, rfl, hown2, hb2⟩
  have hown := Own.more (B := w.heap.size) hown2 (fun j hj => Nat.le_trans hb.size (hown2.lt j hj).1)
  have hfin := hb.trans (hb2.mono hb.size)
  clear hown2 hb hb2
  go_wp2
  go_ret2
  exact ⟨A2, _, c2, rfl, hown, hfin⟩

set_option maxHeartbeats 1000000 in
theorem get_bad (k : Int) (A : Option Addr) (n c : Nat) (b : List Nat) (w : World) (h : RB w A n b) (hc : n ≤ c) (hn : n ≤ 100000) (hp : ¬ isPage k b) :
    Calls Try.prog 37 #[.int .i64 k, .slice A n c] w (Ended w [] 9) := by
  have hl := h.1
  by_cases h12 : n < 12
  · exact get_short k A n c w h12
  · have hr : RB w (cut A c 8) (n - 4 - 8) (payload b) := by
      have := h.mid (lo := 8) (hi := n - 4) (cap := c) (by omega) (by omega) hc
      rw [← hl] at this
      rw [← hl]
      exact this
    have hrun := slice_8_4 A n c (by omega) hc
    have hpl := hr.1
    have H := Lib.hid h
    by_cases hk : k < 1 ∨ 3 < k
    · clear h
      go_enter Try.func37, Try.ntmps37
      go_wp2_with fail
      refine (put_arg k (cut A c 8) (n - 4 - 8) (c - 8) w hk).mono ?_
      rintro e w1 ⟨A1, n1, c1, rfl, hown, hb⟩
      go_wp2
      go_ret2
      exact ⟨none, 0, 0, rfl, Own.nil _ _, hb⟩
    · by_cases hlong : 60000 < n - 4 - 8
      · clear h
        go_enter Try.func37, Try.ntmps37
        go_wp2_with fail
        refine (put_long k (cut A c 8) (n - 4 - 8) (c - 8) w (by omega) (by omega) hlong).mono ?_
        rintro e w1 ⟨A1, n1, c1, rfl, hown, hb⟩
        go_wp2
        go_ret2
        exact ⟨none, 0, 0, rfl, Own.nil _ _, hb⟩
      · obtain ⟨j, rfl⟩ := Int.eq_ofNat_of_zero_le (show 0 ≤ k by omega)
        have hne : page j (payload b) ≠ b := by
          intro e
          exact hp ⟨by omega, by omega, by omega, by omega, by rw [Int.toNat_natCast]; exact e⟩
        have HNE := Lib.hid hne
        clear h hne
        go_enter Try.func37, Try.ntmps37
        go_wp2_with fail
        refine (put_ok j (cut A c 8) (n - 4 - 8) (c - 8) (payload b) w hr (by omega) (by omega) (by omega)).mono ?_
        rintro e w1 ⟨A1, n1, c1, rfl, hown, hb⟩
        have hr1 := hown.read
        have H1 := H.out.below hb
        clear hown hr
        go_wp2_with fail
        refine (bequal_f A1 n1 c1 A n c _ b w1 hr1 H1 HNE.out).mono ?_
        rintro e w2 ⟨rfl, rfl⟩
        go_wp2
        go_ret2
        exact ⟨none, 0, 0, rfl, Own.nil _ _, hb⟩

set_option maxHeartbeats 400000 in
theorem awake05 (w : World) : Calls Try.prog 35 #[] w fun e w' => e = .returned (.bool true) ∧ Below w.heap.size w w' := by
  go_enter Try.func35, Try.ntmps35
  go_wp2_with fail
  refine (put_ok 1 none 0 0 [] w (RB.nil _ _) (by omega) (by omega) (by omega)).mono ?_
  rintro e w1 ⟨A1, n1, c1, rfl, hown, hb⟩
  obtain rfl : n1 = 12 := by rw [← hown.1, page_length]; rfl
  go_wp2
  go_ret
  exact ⟨rfl, hb⟩
end Go.Proofs.Ytinndlofnpkfhaa
