/-
  The walk of the law SumOther.
-/
import Derived.Test.YtinndlofnpkfhaaAwake
import Derived.Test.YtinndlofnpkfhaaKnown
namespace Go.Proofs.Ytinndlofnpkfhaa
open Go.RowKit

theorem Own.some__ {w : World} {base n c : Nat} {A : Option Addr} {l : List Nat} (h : Own w base A n c l) (hn : 0 < n) : ∃ g, A = some ⟨g, 0, none⟩ := by
  obtain ⟨g, cap, hv, _, _⟩ := h.2.2.form hn
  injection hv with hA _ _
  exact ⟨g, hA⟩
theorem abc_lt : ∀ x ∈ ([97, 98, 99] : List Nat), x < 256 := by decide

set_option maxRecDepth 100000 in
set_option maxHeartbeats 2000000 in
theorem sumOther_walk (a0 : Option Addr) (len0 cap0 : Nat) (z0 : List Int) (a1 : Int) (a2 : Int) (w : World) (w0 : IsRow .u8 w a0 len0 cap0 z0) (w1 : (Lit.int .u16 a1).wf = true) (w2 : (Lit.int .u8 a2).wf = true) :
    Calls Try.prog 11 #[.slice a0 len0 cap0, .int .u16 a1, .int .u8 a2] w fun e w' => e = .returned (.bool true) ∧ Below w.heap.size w w' := by
  have hr := RB.of_row w0
  obtain ⟨l, hl⟩ : ∃ l, l = nats (z0.take len0) := ⟨_, rfl⟩
  rw [← hl] at hr
  have h1 := bounds_u16 w1
  have h2 := bounds_u8 w2
  clear hl w0 w1 w2
  by_cases hn : 20000 < len0
  · clear hr
    go_enter Try.func11, Try.ntmps11
    go_wp2_with fail
    refine (awake02 _).mono ?_
    rintro e w1 ⟨rfl, hb1⟩
    go_wp2_with fail
    refine (awake02 _).mono ?_
    rintro e w2 ⟨rfl, hb2⟩
    go_wp2
    go_ret
    exact ⟨rfl, hb1.trans (hb2.mono hb1.size)⟩
  by_cases hz : len0 = 0
  · subst hz
    clear hr
    go_enter Try.func11, Try.ntmps11
    go_wp2_with fail
    refine (awake02 _).mono ?_
    rintro e w1 ⟨rfl, hb1⟩
    go_wp2_with fail
    refine (awake02 _).mono ?_
    rintro e w2 ⟨rfl, hb2⟩
    go_wp2
    go_ret
    exact ⟨rfl, hb1.trans (hb2.mono hb1.size)⟩
  · obtain ⟨at_, rfl⟩ := Int.eq_ofNat_of_zero_le h1.1
    obtain ⟨bt, rfl⟩ := Int.eq_ofNat_of_zero_le h2.1
    have hlen := hr.1
    have hpb := hr.2.1
    obtain ⟨i, hi⟩ : ∃ i, i = at_ % len0 := ⟨_, rfl⟩
    have him : i < len0 := by rw [hi]; exact Nat.mod_lt _ (by omega)
    have ei : (at_ : Int) % (len0 : Int) = (i : Int) := by rw [hi]; simp
    clear hi
    obtain ⟨x, hx⟩ : ∃ x, l[i]? = some x := ⟨_, List.getElem?_eq_getElem (by omega)⟩
    have hx2 : x < 256 := hpb x (List.mem_of_getElem? hx)
    have hbb : bt < 256 := by omega
    obtain ⟨y, hy⟩ : ∃ y, y = x ^^^ 2 ^ (bt % 8) := ⟨_, rfl⟩
    have h2b : 2 ^ (bt % 8) < 256 := Nat.pow_lt_pow_right (by decide) (show bt % 8 < 8 by omega)
    have hy2 : y < 256 := by rw [hy]; exact Nat.xor_lt_two_pow (n := 8) hx2 h2b
    have hxy : x ≠ y := by
      intro e
      have h0 : 0 < 2 ^ (bt % 8) := Nat.two_pow_pos _
      have := congrArg (x ^^^ ·) (e.trans hy)
      simp only [Nat.xor_self, ← Nat.xor_assoc, Nat.zero_xor] at this
      omega
    have ey : bits .xor .u8 (x : Int) (2 ^ (bt % 8) % 256) = (y : Int) := by
      have := u8_xor_nat x (2 ^ (bt % 8)) hx2 h2b
      rw [hy, ← this]
      congr 1
      have e : ((2 ^ (bt % 8) : Nat) : Int) = 2 ^ (bt % 8) := by simp
      rw [← e]
      generalize 2 ^ (bt % 8) = z at h2b
      omega
    have T1 : Hid (Crc.crc l ≠ Crc.crc (l.set i y)) := by
      have hil : i < l.length := by omega
      have hsp : l = l.take i ++ x :: l.drop (i + 1) := by
        have := List.take_append_drop i l
        rw [List.drop_eq_getElem_cons hil, show l[i] = x from by rw [List.getElem?_eq_getElem hil] at hx; exact Option.some.inj hx] at this
        exact this.symm
      have hsp2 : l.set i y = l.take i ++ y :: l.drop (i + 1) := by rw [List.set_eq_take_append_cons_drop, if_pos hil]
      show _ ≠ _
      rw [hsp2]
      conv => lhs; rw [hsp]
      exact Crc.crc_other _ _ x y (fun z hz => hpb z (List.mem_of_mem_take hz)) (fun z hz => hpb z (List.mem_of_mem_drop hz)) hx2 hy2 hxy
    have hsetl : Hid (∀ z ∈ l.set i y, z < 256) := by
      intro z hz
      rcases List.mem_or_eq_of_mem_set hz with h | h
      · exact hpb z h
      · omega
    have hd20 : decide (20000 < (len0 : Int)) = false := by simp; omega
    clear hy h2b hxy hpb
    go_enter Try.func11, Try.ntmps11
    go_wp2_with fail
    refine (awake02 _).mono ?_
    rintro e w1 ⟨rfl, hb1⟩
    have hr2 := hr.below hb1
    have hownc : Own (w1.alloc (.cells #[] 5)) w1.heap.size (some ⟨w1.heap.size, 0, none⟩) 0 0 [] := Own.made w1 #[] 0 (Nat.le_refl _) (by unfold maxLen; omega) rfl
    have hr3 : RB (w1.alloc (.cells #[] 5)) a0 len0 l := hr2.below ((Below.refl _ _).alloc (Nat.le_refl _) _)
    clear hr
    go_wp2_with (at_builtin; refine wpList_append_rb rfl (.tmp 21) (.tmp 22) rfl rfl rfl hownc hr3 (by omega) (by simp) ?_; intro A3 c3 w3 hown3 hon3 hbk3; simp only [Nat.zero_add, List.nil_append] at hown3; rw [Nat.zero_add]; obtain ⟨g, rfl⟩ := hown3.some__ (by omega); have hcell := hown3.cellAt hx; have hfr := hown3.frozenAt i)
    have hbc : Below w1.heap.size w1 (w3.setCell ⟨g, i, none⟩ (.int .u8 (y : Int))) :=
      (((Below.refl _ w1).alloc (Nat.le_refl _) _).trans (hon3.below (by simp) (fun q hq e => by simp [blk] at e; omega))).setCell (by have := (hown3.lt g rfl).1; exact this) _
    have hset := hown3.set_ i y hy2
    have hlec := hset.le
    have hrc := hset.read
    have hr4 := hr2.below hbc
    have hb4 := hb1.trans (hbc.mono hb1.size)
    clear hownc hr3 hown3 hon3 hbk3 hcell hfr hbc hset hx hr2 hb1
    refine (crc_any _ _ _ l _ hr4 (by omega)).mono ?_
    rintro e w4 ⟨rfl, rfl⟩
    go_wp2_with fail
    refine (crc_any _ _ _ _ _ hrc (by omega)).mono ?_
    rintro e w4 ⟨rfl, rfl⟩
    generalize w3.setCell ⟨g, i, none⟩ (.int .u8 (y : Int)) = w4 at *
    have hrabc := RB.new w4 #[.int .u8 97, .int .u8 98, .int .u8 99] 5 (3, 4) [97, 98, 99] rfl abc_lt
    have kc := fun (w : World) (C : Array Value) (n c : Nat) => Lib.run_convert_bytes_const (P := Try.prog) w 22 5 C n c Try.underlying22 Try.underlying5
    have T := T1.out
    generalize Crc.crc l = c1 at *
    generalize Crc.crc (l.set i y) = c2 at *
    have T' : ((c1 : Int) == (c2 : Int)) = false := by simp; omega
    have T'' : ((c1 : Int) != (c2 : Int)) = true := by simp; omega
    clear T T1
    have hb5 := hb4.alloc hb4.size (.cells #[.int .u8 97, .int .u8 98, .int .u8 99] 5 (3, 4))
    go_wp2_with fail
    refine (digest_any _ _ _ _ _ hrabc (by simp)).mono ?_
    rintro e w5 ⟨rfl, hb6⟩
    have hb7 := hb5.trans (hb6.mono hb5.size)
    go_wp2_with fail
    refine (hex_any _ (Sha.digest_len _) (Sha.digest_lt _) _).mono ?_
    rintro e w6 ⟨rfl, hb8⟩
    rw [Known.hex_abc]
    have hb9 := hb7.trans (hb8.mono hb7.size)
    clear hb4 hb5 hb6 hb7 hb8 hr4 hrc hrabc
    go_wp2
    go_ret
    exact ⟨rfl, hb9⟩
end Go.Proofs.Ytinndlofnpkfhaa
