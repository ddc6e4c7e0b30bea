/-
  The walk of the law PageTurned.
-/
import Derived.Test.YtinndlofnpkfhaaRPage
namespace Go.Proofs.Ytinndlofnpkfhaa
open Go.RowKit

theorem Own.some_ {w : World} {base n c : Nat} {A : Option Addr} {l : List Nat} (h : Own w base A n c l) (hn : 0 < n) : ∃ g, A = some ⟨g, 0, none⟩ := by
  obtain ⟨g, cap, hv, _, _⟩ := h.2.2.form hn
  injection hv with hA _ _
  exact ⟨g, hA⟩

set_option maxRecDepth 100000 in
set_option maxHeartbeats 2000000 in
theorem pageTurned_walk (a0 : Int) (a1 : Option Addr) (len1 cap1 : Nat) (z1 : List Int) (a2 : Int) (a3 : Int) (a4 : Int) (w : World) (w0 : (Lit.int .u8 a0).wf = true) (w1 : IsRow .u8 w a1 len1 cap1 z1)
    (w2 : (Lit.int .u16 a2).wf = true) (w3 : (Lit.int .u8 a3).wf = true) (w4 : (Lit.int .u16 a4).wf = true) :
    Calls Try.prog 9 #[.int .u8 a0, .slice a1 len1 cap1, .int .u16 a2, .int .u8 a3, .int .u16 a4] w fun e w' => e = .returned (.bool true) ∧ Below w.heap.size w w' := by
  have hr := RB.of_row w1
  obtain ⟨l, hl⟩ : ∃ l, l = nats (z1.take len1) := ⟨_, rfl⟩
  rw [← hl] at hr
  have h0 := bounds_u8 w0
  have h2 := bounds_u16 w2
  have h3 := bounds_u8 w3
  have h4 := bounds_u16 w4
  clear hl w0 w1 w2 w3 w4
  by_cases hn : 10000 < len1
  · clear hr
    go_enter Try.func9, Try.ntmps9
    go_wp2_with fail
    refine (awake05 _).mono ?_
    rintro e w1 ⟨rfl, hb1⟩
    go_wp2_with fail
    refine (awake05 _).mono ?_
    rintro e w2 ⟨rfl, hb2⟩
    go_wp2
    go_ret
    exact ⟨rfl, hb1.trans (hb2.mono hb1.size)⟩
  · obtain ⟨k0, rfl⟩ := Int.eq_ofNat_of_zero_le h0.1
    obtain ⟨at_, rfl⟩ := Int.eq_ofNat_of_zero_le h2.1
    obtain ⟨bt, rfl⟩ := Int.eq_ofNat_of_zero_le h3.1
    obtain ⟨ct, rfl⟩ := Int.eq_ofNat_of_zero_le h4.1
    have H := Lib.hid hr
    have hlen := hr.1
    have hlt := hr.2.1
    clear hr
    obtain ⟨k, hk⟩ : ∃ k, k = k0 % 3 + 1 := ⟨_, rfl⟩
    have ek : 1 + (k0 : Int) % 3 = (k : Int) := by omega
    have hk1 : 1 ≤ k := by omega
    have hk3 : k ≤ 3 := by omega
    clear hk
    have hplen := page_length k l
    have hpb := page_lt k l hlt
    obtain ⟨i, hi⟩ : ∃ i, i = at_ % (len1 + 12) := ⟨_, rfl⟩
    have him : i < len1 + 12 := by rw [hi]; exact Nat.mod_lt _ (by omega)
    have ei : (at_ : Int) % ((len1 : Int) + 12) = (i : Int) := by rw [hi]; simp
    obtain ⟨j, hj⟩ : ∃ j, j = ct % (len1 + 12) := ⟨_, rfl⟩
    have hjm : j < len1 + 12 := by rw [hj]; exact Nat.mod_lt _ (by omega)
    have ej : (ct : Int) % ((len1 : Int) + 12) = (j : Int) := by rw [hj]; simp
    clear hi hj
    generalize hP : page k l = P at *
    have HPg := Lib.hid hP
    rw [hlen] at hplen
    clear hP
    obtain ⟨x, hx⟩ : ∃ x, P[i]? = some x := ⟨_, List.getElem?_eq_getElem (by omega)⟩
    have hx2 : x < 256 := hpb x (List.mem_of_getElem? hx)
    have hbb : bt < 256 := by omega
    obtain ⟨y, hy⟩ : ∃ y, y = x ^^^ 2 ^ (bt % 8) := ⟨_, rfl⟩
    have h2b : 2 ^ (bt % 8) < 256 := Nat.pow_lt_pow_right (by decide) (show bt % 8 < 8 by omega)
    have hy2 : y < 256 := by rw [hy]; exact Nat.xor_lt_two_pow (n := 8) hx2 h2b
    have hxy : x ≠ y := by
      intro e
      have h0 : 0 < 2 ^ (bt % 8) := Nat.two_pow_pos _
      have := congrArg (x ^^^ ·) (e.trans hy)
      simp only [Nat.xor_self, ← Nat.xor_assoc, Nat.zero_xor] at this
      omega
    have ey : bits .xor .u8 (x : Int) (2 ^ (bt % 8) % 256) = (y : Int) := by
      have := u8_xor_nat x (2 ^ (bt % 8)) hx2 h2b
      rw [hy, ← this]
      congr 1
      have e : ((2 ^ (bt % 8) : Nat) : Int) = 2 ^ (bt % 8) := by simp
      rw [← e]
      generalize 2 ^ (bt % 8) = z at h2b
      omega
    have T1 : Hid (¬ isPage k (P.set i y)) := by rw [← HPg.out] at hx ⊢; exact page_turned k l hlt i x y hx hy2 hxy
    have T2 : Hid (¬ isPage k (P.take j)) := by rw [← HPg.out]; exact page_cut k l (by omega) j (by rw [HPg.out]; omega)
    have T3 : Hid (¬ isPage k (P ++ [bt])) := by rw [← HPg.out]; exact page_more k l bt (by omega)
    clear hy h2b hxy
    go_enter Try.func9, Try.ntmps9
    go_wp2_with fail
    refine (awake05 _).mono ?_
    rintro e w1 ⟨rfl, hb1⟩
    go_wp2_with fail
    refine (rpage k a1 len1 cap1 l w1 (H.out.below hb1) hk1 hk3 (by omega)).mono ?_
    rintro e w2 ⟨A, c, rfl, hown, hb2⟩
    rw [HPg.out] at hown
    have hb3 := hb1.trans (hb2.mono hb1.size)
    have hr2 := hown.read
    have hle := hown.le
    clear hb1 hb2 hown
    have hownc : Own (w2.alloc (.cells #[] 5)) w2.heap.size (some ⟨w2.heap.size, 0, none⟩) 0 0 [] := Own.made w2 #[] 0 (Nat.le_refl _) (by unfold maxLen; omega) rfl
    have hr3 : RB (w2.alloc (.cells #[] 5)) A (len1 + 12) P := hr2.below ((Below.refl _ _).alloc (Nat.le_refl _) _)
    go_wp2_with (at_builtin; refine wpList_append_rb rfl (.tmp 35) (.tmp 36) rfl rfl rfl hownc hr3 (by omega) (by simp) ?_; intro A3 c3 w3 hown3 hon3 hbk3; simp only [Nat.zero_add, List.nil_append] at hown3; rw [Nat.zero_add]; obtain ⟨g, rfl⟩ := hown3.some_ (by omega); have hcell := hown3.cellAt hx; have hfr := hown3.frozenAt i)
    have hbc : Below w2.heap.size w2 (w3.setCell ⟨g, i, none⟩ (.int .u8 (y : Int))) :=
      (((Below.refl _ w2).alloc (Nat.le_refl _) _).trans (hon3.below (by simp) (fun q hq e => by simp [blk] at e; omega))).setCell (by have := (hown3.lt g rfl).1; exact this) _
    have hset := hown3.set_ i y hy2
    have hlec := hset.le
    have hrc := hset.read
    have hr4 := hr2.below hbc
    have hb4 := hb3.trans (hbc.mono hb3.size)
    clear hownc hr3 hown3 hon3 hbk3 hcell hfr hbc hset hx
    refine (get_bad k _ (len1 + 12) c3 (P.set i y) _ hrc hlec (by omega) T1.out).mono ?_
    rintro e w4 ⟨A4, n4, c4, rfl, -, hb5⟩
    have hr5 := hr4.below hb5
    have hb6 := hb4.trans (hb5.mono hb4.size)
    clear hrc hr4 hb4 hb5
    go_wp2_with fail
    refine (get_bad k A j c (P.take j) w4 (hr5.take (by omega)) (by omega) (by omega) T2.out).mono ?_
    rintro e w5 ⟨A5, n5, c5, rfl, -, hb7⟩
    have hr6 := hr5.below hb7
    have hb8 := hb6.trans (hb7.mono hb6.size)
    clear hr5 hb6 hb7
    have hownd : Own (w5.alloc (.cells #[] 5)) w5.heap.size (some ⟨w5.heap.size, 0, none⟩) 0 0 [] := Own.made w5 #[] 0 (Nat.le_refl _) (by unfold maxLen; omega) rfl
    have hr7 : RB (w5.alloc (.cells #[] 5)) A (len1 + 12) P := hr6.below ((Below.refl _ _).alloc (Nat.le_refl _) _)
    go_wp2_with (first | (at_builtin; refine wpList_append_rb rfl (.tmp 71) (.tmp 72) rfl rfl rfl hownd hr7 (by omega) (by simp) ?_; intro A6 c6 w6 hown6 hon6 hbk6; simp only [Nat.zero_add, List.nil_append] at hown6; rw [Nat.zero_add]; have hown7 := hown6.alloc (.cells #[.int .u8 (bt : Int)] 5); have hr8 := RB.new w6 #[.int .u8 (bt : Int)] 5 (0, 0) [bt] rfl (by simpa using hbb); have hb9 : Below w5.heap.size w5 w6 := ((Below.refl _ w5).alloc (Nat.le_refl _) _).trans (hon6.below (by simp) (fun q hq e => by simp [blk] at e; omega))) | (at_builtin; refine wpList_append_rb rfl (.tmp 73) (.tmp 75) rfl rfl rfl hown7 hr8 (by omega) (by have := hb9.size; simp; omega) ?_; intro A7 c7 w7 hown8 hon7 hbk7))
    have hb10 : Below w5.heap.size w5 w7 := (hb9.alloc hb9.size _).trans (hon7.below (by have := hb9.size; simp; omega) (fun q hq e => by have := (hown7.lt q e).1; omega))
    have hle8 := hown8.le
    have hr9 := hown8.read
    have hb11 := hb8.trans (hb10.mono hb8.size)
    clear hownd hr7 hown6 hon6 hbk6 hown7 hr8 hb9 hown8 hon7 hbk7 hb10 hb8
    refine (get_bad k A7 (len1 + 12 + 1) c7 (P ++ [bt]) w7 hr9 hle8 (by omega) T3.out).mono ?_
    rintro e w8 ⟨A8, n8, c8, rfl, -, hb12⟩
    have hfin := hb11.trans (hb12.mono hb11.size)
    clear hr9 hb11 hb12
    go_wp2
    go_ret
    exact ⟨rfl, hfin⟩
end Go.Proofs.Ytinndlofnpkfhaa
