/-
  Package codec, type In: N, Raw, Bad, Left, Done.
-/
import Derived.Test.YtinndlofnpkfhaaIn
import Derived.Test.YtinndlofnpkfhaaNum
import Derived.Test.YtinndlofnpkfhaaSum
namespace Go.Proofs.Ytinndlofnpkfhaa
open Go.RowKit

def sizeN (s : Int) : Int := if 1 ≤ s ∧ s ≤ 7 then s else -1
def Gave (w : World) (g : Nat) (i : InM) (s : Int) (e : Ending) (w' : World) : Prop :=
  e = .returned (.int .i64 ((num (i.got (sizeN s)) : Nat) : Int)) ∧ InS w' g (i.rest (sizeN s)) ∧ Only (fun k => k = g) w w'

theorem got_mem {w : World} {g : Nat} {i : InM} (h : InS w g i) (n : Int) : ∀ x ∈ i.got n, x < 256 := by
  obtain ⟨A, m, c, h1, h2, h3, h4⟩ := h
  intro x hx
  unfold InM.got at hx
  split at hx
  · exact h2.2.1 x (List.mem_of_mem_take hx)
  · cases hx
theorem got_len (i : InM) (n : Int) (h : n ≤ 7) : (i.got n).length ≤ 7 := by
  unfold InM.got
  split
  · rw [List.length_take]; omega
  · simp
theorem sizeN_le (s : Int) : sizeN s ≤ 7 ∧ -1 ≤ sizeN s := by unfold sizeN; split <;> omega

set_option maxHeartbeats 1000000 in
theorem in_n (g : Nat) (i : InM) (s : Int) (w : World) (h : InS w g i) :
    Calls Try.prog 22 #[.pointer (some ⟨g, 0, none⟩), .int .i64 s] w (Gave w g i s) := by
  have hm := got_mem h (sizeN s)
  have hl := got_len i (sizeN s) (sizeN_le s).1
  have HT0 := take_any g i (sizeN s) w h
  have hcase : (s < 1 ∧ sizeN s = -1) ∨ (1 ≤ s ∧ s ≤ 7 ∧ sizeN s = s) ∨ (1 ≤ s ∧ 7 < s ∧ sizeN s = -1) := by
    unfold sizeN
    split <;> omega
  clear h
  unfold Gave
  unfold Took at HT0
  generalize i.got (sizeN s) = L at *
  generalize i.rest (sizeN s) = J at *
  rcases hcase with ⟨h1, es⟩ | ⟨h1, h2, es⟩ | ⟨h1, h2, es⟩
  all_goals
    rw [es] at HT0
    have HT := Lib.hid HT0
    clear HT0 es
    go_enter Try.func22, Try.ntmps22
    go_wp2_with fail
    refine HT.out.mono ?_
    rintro e w1 ⟨A, m, c, rfl, hmc, hr, hi, ho⟩
    have hll := hr.1
    have HI := Lib.hid hi
    have HO := Lib.hid ho
    clear hi ho
    go_wp2
    go_loop [5, 18] (fun v i => ∃ k : Nat, k ≤ m ∧ i = .int .i64 k ∧ v = .int .i64 ((num (L.take k) : Nat) : Int)) (fun _ i => m - (intOf i).toNat)
    case atStart => exact ⟨0, Nat.zero_le _, rfl, rfl⟩
    case round =>
      obtain ⟨k, hk, rfl, rfl⟩ := hrel
      by_cases hlt : k < m
      · obtain ⟨ad, x, rfl, hx, hx2, hcell⟩ := hr.at_ hlt
        have hv : num (L.take k) < 281474976710656 := num_lt_of (n := 6) (fun y hy => hm y (List.mem_of_mem_take hy)) (by rw [List.length_take]; omega)
        have HS : Hid (num (L.take (k + 1)) = num (L.take k) * 256 + x) := by show _ = _; rw [take_succ' hx, num_snoc]
        have b := shl_or (num (L.take k)) x hv hx2
        have HX := Lib.hid hx
        clear hx
        go_wp2
        go_round
        case rel => exact ⟨k + 1, by omega, by go_num, by rw [HS.out]; go_num⟩
        case measure => simp [intOf]; omega
      · obtain rfl : k = m := by omega
        rw [List.take_of_length_le (by omega)]
        go_wp2
        go_ret
        exact ⟨rfl, HI.out, HO.out⟩

def Raw (w : World) (g : Nat) (i : InM) (n : Int) (e : Ending) (w' : World) : Prop :=
  ∃ A m c, e = .returned (.slice A m c) ∧ m ≤ c ∧ RB w' A m (i.got n) ∧ InS w' g (i.rest n) ∧ Only (fun k => k = g) w w'

set_option maxHeartbeats 400000 in
theorem in_raw (g : Nat) (i : InM) (n : Int) (w : World) (h : InS w g i) (h3 : i.l.length ≤ 500000) :
    Calls Try.prog 24 #[.pointer (some ⟨g, 0, none⟩), .int .i64 n] w (Raw w g i n) := by
  have hlt := (Array.getElem?_eq_some_iff.1 h.choose_spec.choose_spec.choose_spec.1).1
  have hgl : (i.got n).length ≤ 500000 := by
    unfold InM.got
    split
    · rw [List.length_take]; omega
    · simp
  go_enter Try.func24, Try.ntmps24
  go_wp2_with fail
  refine (take_any g i n w h).mono ?_
  rintro e w1 ⟨A, m, c, rfl, hmc, hr, hi, ho⟩
  go_wp2_with fail
  refine (bclone A m c _ w1 hr (by have := hr.1; omega)).mono ?_
  rintro e w2 ⟨A', c', rfl, hown, hb⟩
  go_wp2
  go_ret
  exact ⟨A', m, c', rfl, hown.le, hown.read, hi.below hb, ho.trans (Only.of_below hb (fun _ => False)) (fun _ _ h => h.elim)⟩

set_option maxHeartbeats 400000 in
theorem in_bad (g : Nat) (i : InM) (w : World) (h : InS w g i) :
    Calls Try.prog 25 #[.pointer (some ⟨g, 0, none⟩)] w fun e w' => e = .returned (.bool i.bad) ∧ w = w' := by
  obtain ⟨A, m, c, hg, hr, hc, hb⟩ := h
  have c1 : w.cell? ⟨g, 1, none⟩ = some (.bool i.bad) := cell_of_row w g 1 _ _ _ hg
  clear hr hg hb
  go_enter Try.func25, Try.ntmps25
  go_wp2
  go_ret
  exact ⟨rfl, rfl⟩

set_option maxHeartbeats 400000 in
theorem in_left (g : Nat) (i : InM) (w : World) (h : InS w g i) :
    Calls Try.prog 26 #[.pointer (some ⟨g, 0, none⟩)] w fun e w' => e = .returned (.int .i64 (i.l.length : Nat)) ∧ w = w' := by
  obtain ⟨A, m, c, hg, hr, hc, hb⟩ := h
  have c0 : w.cell? ⟨g, 0, none⟩ = some (.slice A m c) := cell_of_row w g 0 _ _ _ hg
  have HL := Lib.hid hr.1
  clear hr hg hb
  go_enter Try.func26, Try.ntmps26
  go_wp2
  go_ret
  exact ⟨by rw [HL.out]; rfl, rfl⟩

def InM.done (i : InM) : Bool := !i.bad && decide (i.l.length = 0)

set_option maxHeartbeats 400000 in
theorem in_done (g : Nat) (i : InM) (w : World) (h : InS w g i) :
    Calls Try.prog 27 #[.pointer (some ⟨g, 0, none⟩)] w fun e w' => e = .returned (.bool i.done) ∧ w = w' := by
  obtain ⟨A, m, c, hg, hr, hc, hb⟩ := h
  obtain ⟨l, bad⟩ := i
  have c0 : w.cell? ⟨g, 0, none⟩ = some (.slice A m c) := cell_of_row w g 0 _ _ _ hg
  have c1 : w.cell? ⟨g, 1, none⟩ = some (.bool bad) := cell_of_row w g 1 _ _ _ hg
  have hl : l.length = m := hr.1
  have e : (InM.mk l bad).done = (!bad && decide (m = 0)) := by rw [InM.done, hl]
  rw [e]
  clear hr hg hb hl e
  cases bad
  · by_cases h0 : m = 0
    · subst h0
      go_enter Try.func27, Try.ntmps27
      go_wp2
      go_ret
      exact ⟨rfl, rfl⟩
    · have h0' : ((m : Int) == 0) = false := by simp; omega
      have h1 : decide (m = 0) = false := decide_eq_false h0
      rw [h1]
      go_enter Try.func27, Try.ntmps27
      go_wp2
      go_ret
      exact ⟨rfl, rfl⟩
  · go_enter Try.func27, Try.ntmps27
    go_wp2
    go_ret
    exact ⟨rfl, rfl⟩
end Go.Proofs.Ytinndlofnpkfhaa
