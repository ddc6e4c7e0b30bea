/-
  Package codec, type Out: Raw, Text, End; type In: Text.
-/
import Derived.Test.YtinndlofnpkfhaaOut
import Derived.Test.YtinndlofnpkfhaaInN
import Derived.Test.YtinndlofnpkfhaaStr
namespace Go.Proofs.Ytinndlofnpkfhaa
open Go.RowKit

set_option maxHeartbeats 400000 in
theorem out_raw (g base : Nat) (A : Option Addr) (n c : Nat) (l : List Nat) (sp : Bool) (X : Option Addr) (m cx : Nat) (news : List Nat) (w : World)
    (h : OutS w g base A n c l sp) (hbase : base ≤ w.heap.size) (hr : RB w X m news) (hlen : n + m ≤ 1000000) :
    Calls Try.prog 32 #[.pointer (some ⟨g, 0, none⟩), .slice X m cx] w (Outs w g base A (l ++ news) sp) := by
  have hg := h.1
  have hown := h.2
  have c0 : w.cell? ⟨g, 0, none⟩ = some (.slice A n c) := cell_of_row w g 0 _ _ _ hg
  have HG := Lib.hid hg
  have H := Lib.hid h
  have hne : ¬ blk A = some g := h.ne
  clear hg h
  go_enter Try.func32, Try.ntmps32
  go_wp2_with (at_builtin; refine wpList_append_rb rfl _ _ rfl rfl rfl hown hr hlen hbase ?_; intro A2 c2 w2 hown2 hon2 hbk2; have hrow := hon2.row HG.out hne; have g0 := hrow.1 0; have g1 := hrow.2.1 0; clear hrow; simp only [List.getElem?_toArray, List.getElem?_cons_zero] at g0)
  go_end0
  have R := out_step H.out (Only.refl _ w) (fun k hk => .inl hk) (Only.refl _ w) hown2 hon2 hbk2
  exact ⟨A2, n + m, c2, rfl, R.1, R.2.1, R.2.2⟩

/-- What a call leaves that answers a new slice of bytes, l, and an error number. -/
def Ended (w : World) (l : List Nat) (k : Int) (e : Ending) (w' : World) : Prop :=
  ∃ A n c, e = .returned (.tuple #[.slice A n c, .int .i64 k]) ∧ Own w' w.heap.size A n c l ∧ Below w.heap.size w w'

set_option maxHeartbeats 400000 in
theorem out_end (g base : Nat) (A : Option Addr) (n c : Nat) (l : List Nat) (w : World) (h : OutS w g base A n c l false) (hlen : n ≤ 500000) :
    Calls Try.prog 33 #[.pointer (some ⟨g, 0, none⟩)] w (Ended w l 0) := by
  have hg := h.1
  have c0 : w.cell? ⟨g, 0, none⟩ = some (.slice A n c) := cell_of_row w g 0 _ _ _ hg
  have c1 : w.cell? ⟨g, 1, none⟩ = some (.bool false) := cell_of_row w g 1 _ _ _ hg
  have hr := h.2.read
  clear hg h
  go_enter Try.func33, Try.ntmps33
  go_wp2_with fail
  refine (sclone A n c l w hr hlen).mono ?_
  rintro e w1 ⟨A', c', rfl, hown, hb⟩
  go_wp2
  go_ret2
  exact ⟨A', n, c', rfl, hown, hb⟩

set_option maxHeartbeats 400000 in
theorem out_end_bad (g base : Nat) (A : Option Addr) (n c : Nat) (l : List Nat) (w : World) (h : OutS w g base A n c l true) :
    Calls Try.prog 33 #[.pointer (some ⟨g, 0, none⟩)] w (Ended w [] 1) := by
  have hg := h.1
  have c1 : w.cell? ⟨g, 1, none⟩ = some (.bool true) := cell_of_row w g 1 _ _ _ hg
  clear hg h
  go_enter Try.func33, Try.ntmps33
  go_wp2
  go_ret2
  exact ⟨none, 0, 0, rfl, Own.nil _ _, Below.refl _ _⟩

theorem outs_trans {w w1 w' : World} {g base n c : Nat} {A A1 : Option Addr} {l l' : List Nat} {sp sp' : Bool} {e : Ending}
    (_h1 : OutS w1 g base A1 n c l sp) (ho : Only (OS g A) w w1) (hb : ∀ k, blk A1 = some k → blk A = some k ∨ w.heap.size ≤ k) (h : Outs w1 g base A1 l' sp' e w') : Outs w g base A l' sp' e w' := by
  obtain ⟨A2, n2, c2, he, h2, h3, h4⟩ := h
  refine ⟨A2, n2, c2, he, h2, ho.trans h3 (fun k hk hs => ?_), fun k hk => ?_⟩
  · rcases hs with hs | hs
    · exact .inl hs
    · rcases hb k hs with h | h
      · exact .inr h
      · omega
  · rcases h4 k hk with h | h
    · exact hb k h
    · have := ho.size
      exact .inr (by omega)

/-- 'Text': the two bytes of its length, and its bytes. -/
def lenB (n : Nat) : List Nat := if n < 65536 then beb n 2 else []

set_option maxHeartbeats 400000 in
theorem out_text (g base : Nat) (A : Option Addr) (n c : Nat) (l : List Nat) (sp : Bool) (s : ByteArray) (w : World)
    (h : OutS w g base A n c l sp) (hbase : base ≤ w.heap.size) (hlen : n + s.size ≤ 800000) :
    Calls Try.prog 30 #[.pointer (some ⟨g, 0, none⟩), .string s] w (Outs w g base A (l ++ lenB s.size ++ ofStr s) (sp || decide (65536 ≤ s.size))) := by
  have hrb := run_bytes s
  have hN : Calls Try.prog 28 #[.pointer (some ⟨g, 0, none⟩), .int .i64 (s.size : Int), .int .i64 2] w (Outs w g base A (l ++ lenB s.size) (sp || decide (65536 ≤ s.size))) := by
    by_cases hs : s.size < 65536
    · have := out_n_loop g base A n c l sp s.size 2 w h hbase (by omega) (by omega) (by simpa using hs) (by omega)
      rw [lenB, if_pos hs, decide_eq_false (by omega), Bool.or_false]
      exact this
    · have := out_n_bad g base A n c l sp s.size 2 w h (by omega) (by omega) (by simp; omega)
      rw [lenB, if_neg hs, decide_eq_true (by omega), Bool.or_true, List.append_nil]
      exact this
  have HN := Lib.hid hN
  clear hN
  have hll := h.2.1
  clear h
  generalize (sp || decide (65536 ≤ s.size)) = sp' at *
  go_enter Try.func30, Try.ntmps30
  go_wp2_with fail
  refine HN.out.mono ?_
  rintro e w1 ⟨A1, n1, c1, rfl, h1, ho1, hb1⟩
  have HO1 := Lib.hid ho1
  have HB1 := Lib.hid hb1
  have h63 := h1.2.1
  have HH := Lib.hid h1
  have hsz := ho1.size
  clear ho1 hb1 h1
  have hln : (lenB s.size).length ≤ 2 := by unfold lenB; split <;> simp [beb_length]
  have hn1 : n1 ≤ n + 2 := by rw [← h63, List.length_append, hll]; omega
  clear h63 hll hln
  go_wp2_with fail
  have h2 : OutS (w1.drew.alloc (bobj w1 s)) g base A1 n1 c1 (l ++ lenB s.size) sp' := HH.out.below ((Below.refl _ w1).drew.alloc (Nat.le_refl _) _)
  have hRB : RB (w1.drew.alloc (bobj w1 s)) (some ⟨w1.heap.size, 0, none⟩) s.size (ofStr s) := RB.bytes w1.drew w1 s
  refine (out_raw g base A1 n1 c1 (l ++ lenB s.size) sp' (some ⟨w1.heap.size, 0, none⟩) s.size _ (ofStr s) _ h2 (by simp; omega) hRB (by omega)).mono ?_
  rintro e w2 hR
  have hO : Only (OS g A) w (w1.drew.alloc (bobj w1 s)) := HO1.out.drew.alloc _
  have hfin := outs_trans h2 hO HB1.out hR
  obtain ⟨_, _, _, rfl, _⟩ := hR
  go_wp2
  go_end0
  exact hfin

def TextGot (w : World) (g : Nat) (i : InM) (e : Ending) (w' : World) : Prop :=
  e = .returned (.string (str ((i.rest 2).got (num (i.got 2))))) ∧ InS w' g ((i.rest 2).rest (num (i.got 2))) ∧ Only (fun k => k = g) w w'

set_option maxHeartbeats 400000 in
theorem in_text (g : Nat) (i : InM) (w : World) (h : InS w g i) :
    Calls Try.prog 34 #[.pointer (some ⟨g, 0, none⟩)] w (TextGot w g i) := by
  go_enter Try.func34, Try.ntmps34
  go_wp2_with fail
  refine (in_n g i 2 w h).mono ?_
  rintro e w1 ⟨rfl, hi, ho⟩
  have e2 : sizeN 2 = 2 := rfl
  rw [e2] at hi
  go_wp2_with fail
  refine (take_any g (i.rest 2) _ w1 hi).mono ?_
  rintro e w2 ⟨A, m, c, rfl, hmc, hr, hi2, ho2⟩
  have hconv := conv_rb hr c
  go_wp2
  go_ret
  exact ⟨rfl, hi2, ho.trans ho2 (fun _ _ h => h)⟩
end Go.Proofs.Ytinndlofnpkfhaa
