/-
  The walks of flag.names, flag.Print; the statements' own 'awake' of layer 8.
-/
import Derived.Test.YtigkjjbdbficnaaRow
import Derived.Test.YtigkjjbdbficnaaFlg
import Derived.Test.YtigkjjbdbficnaaShelf
namespace Go.Proofs.Ytigkjjbdbficnaa
open Go.RowKit

/-- The flags' names, in order. -/
def NM : List ByteArray := [⟨#[92, 83, 101, 101, 110]⟩, ⟨#[92, 65, 110, 115, 119, 101, 114, 101, 100]⟩, ⟨#[92, 70, 108, 97, 103, 103, 101, 100]⟩, ⟨#[92, 68, 101, 108, 101, 116, 101, 100]⟩, ⟨#[92, 68, 114, 97, 102, 116]⟩]
/-- Those of the first k whose bit is there. -/
def pick (x : Nat) : Nat → List ByteArray
  | 0 => []
  | k + 1 => if bitAt x k then pick x k ++ [NM.getD k ⟨#[]⟩] else pick x k
theorem pick_len (x k : Nat) : (pick x k).length ≤ k := by
  induction k with
  | zero => simp [pick]
  | succ k ih =>
    rw [pick]
    split
    · rw [List.length_append]; simp; omega
    · omega
def joined (x : Nat) : ByteArray := ⟨(Lib.join ((pick x 5).map (·.data.toList)) [32]).toArray⟩
theorem joined_size : ∀ x < 32, (Lib.join ((pick x 5).map (·.data.toList)) [32]).length ≤ 60 := by decide +kernel
def printed (x : Nat) : ByteArray := ⟨#[40]⟩ ++ joined x ++ ⟨#[41]⟩

set_option maxHeartbeats 400000 in
theorem names_any (w : World) : Calls Try.prog 15 #[] w fun e w' => ∃ A, e = .returned (.slice A 5 5) ∧ RS w' A 5 NM ∧ Below w.heap.size w w' := by
  go_enter Try.func15, Try.ntmps15
  go_wp2
  go_ret
  exact ⟨_, rfl, RS.new w _ 9 _ NM rfl, (Below.refl _ _).alloc (Nat.le_refl _) _⟩

set_option maxHeartbeats 1000000 in
theorem print_any (a : Int) (w : World) :
    Calls Try.prog 11 #[.int .i64 a] w fun e w' => e = .returned (.string (printed (lo a))) ∧ Below w.heap.size w w' := by
  go_enter Try.func11, Try.ntmps11
  go_wp2_with fail
  refine (names_any w).mono ?_
  rintro e w1 ⟨N, rfl, hN, hb1⟩
  go_wp2_with fail
  go_loopw [3, 8] (fun v i wr => ∃ k : Nat, k ≤ 5 ∧ i = .int .i64 k ∧ ∃ A n c, v = .slice A n c ∧ OwnS wr w1.heap.size A n c (pick (lo a) k) ∧ Below w1.heap.size w1 wr) (fun _ i _ => 5 - (intOf i).toNat)
  case atStart => exact ⟨0, by omega, rfl, none, 0, 0, rfl, OwnS.nil _ _, Below.refl _ _⟩
  case round =>
    obtain ⟨k, hk, rfl, A, n, c, rfl, hown, hbr⟩ := hrel
    have hn : n ≤ 5 := by rw [← hown.1]; exact Nat.le_trans (pick_len _ _) hk
    by_cases hlt : k < 5
    · have hNr := hN.below hbr
      obtain ⟨ad, s, rfl, hs, hcell⟩ := hNr.at_ hlt
      have fa := bit_lo a k hlt
      have hpk : Hid (pick (lo a) (k + 1) = if bitAt (lo a) k then pick (lo a) k ++ [s] else pick (lo a) k) := by
        show _ = _
        rw [pick, List.getD_eq_getElem?_getD, hs]
        rfl
      have hsz := hb1.size
      have hsz2 := hbr.size
      have HB := Lib.hid hbr
      clear hs hNr hbr
      obtain ⟨p, hp⟩ : ∃ p, p = lo a / 2 ^ k % 2 := ⟨_, rfl⟩
      rw [← hp] at fa
      have hp2 : p < 2 := by omega
      have hbt : bitAt (lo a) k = decide (p = 1) := by rw [hp]; rfl
      have HT := Lib.hid hbt
      clear hp hbt
      by_cases h1 : p = 1
      · subst h1
        go_wp2_with (at_builtin; refine wpList_append_s rfl _ _ rfl rfl rfl (hown.below ((Below.refl _ wr).alloc (Nat.le_refl _) (.cells #[.string s] 9))) (RS.new wr #[.string s] 9 (0, 0) [s] rfl) (by omega) (by omega) (by simp; omega) ?_; intro A2 c2 w2 hown2 hon2 hbk2)
        have hb2 : Below w1.heap.size w1 w2 := (HB.out.alloc hsz2 _).trans (hon2.below (by simp; omega) (fun i hi e => by have := (hown.lt i e).1; omega))
        go_roundw
        case rel => exact ⟨k + 1, by omega, by go_num, A2, n + 1, c2, rfl, by rw [hpk.out, HT.out]; exact hown2, hb2⟩
        case measure => simp [intOf]; omega
      · have h0 : p = 0 := by omega
        subst h0
        go_wp2
        go_roundw
        case rel => exact ⟨k + 1, by omega, by go_num, A, n, c, rfl, by rw [hpk.out, HT.out]; exact hown, HB.out⟩
        case measure => simp [intOf]; omega
    · obtain rfl : k = 5 := by omega
      have hjs := joined_size (lo a) (lo_lt a)
      have hle := hown.le
      have hr := hown.read
      have hl := hown.1
      have hsz := hb1.size
      have hb2 := hb1.trans (hbr.mono hb1.size)
      have HB := Lib.hid hb2
      clear hbr hb1 hb2
      have hjn : (joined (lo a)).size ≤ 60 := by show (Lib.join ((pick (lo a) 5).map (·.data.toList)) [32]).toArray.size ≤ 60; rw [List.size_toArray]; exact hjs
      by_cases h0 : n = 0
      · subst h0
        have hp0 : pick (lo a) 5 = [] := List.eq_nil_of_length_eq_zero hl
        have hj : joined (lo a) = ⟨#[]⟩ := by rw [joined, hp0]; rfl
        have HP : Hid (printed (lo a) = ⟨#[40]⟩ ++ ⟨#[]⟩ ++ ⟨#[41]⟩) := by show _ = _; rw [printed, hj]
        clear hj hp0 hown hr
        go_wp2_with fail
        refine (Try.strings_Join_none A c _ wr).mono ?_
        rintro e w2 ⟨rfl, rfl⟩
        go_wp2
        go_ret
        exact ⟨by rw [HP.out]; rfl, HB.out⟩
      · obtain ⟨g, rfl, hg⟩ := hown.some_ (by omega)
        have hcells : ∀ (j : Nat) x, (pick (lo a) 5)[j]? = some x → wr.cell? ⟨g, 0 + j, none⟩ = some (.string x) := by
          intro j x hj
          obtain ⟨ad, e, hc⟩ := hr.2 (by omega)
          injection e with e
          subst e
          have := hc j x hj
          rw [Nat.zero_add]
          by_cases hj0 : j = 0
          · subst hj0; simpa [Addr.add] using this
          · simpa [Addr.add, hj0] using this
        have HJ0 : Calls Try.prog 18 #[.slice (some ⟨g, 0, none⟩) (pick (lo a) 5).length c, .string ⟨#[32]⟩] wr fun e w' => e = .returned (.string (joined (lo a))) ∧ Below wr.heap.size wr w' :=
          Try.strings_Join g 0 c (pick (lo a) 5) ⟨#[32]⟩ wr hcells hg (by omega) (by omega) (Nat.le_trans hjs (by omega))
        rw [hl] at HJ0
        have HP : Hid (printed (lo a) = ⟨#[40]⟩ ++ joined (lo a) ++ ⟨#[41]⟩) := rfl
        generalize joined (lo a) = J at *
        have HJ := Lib.hid HJ0
        clear hcells hown hr HJ0 hjs
        go_wp2_with fail
        refine HJ.out.mono ?_
        rintro e w2 ⟨rfl, hb⟩
        have hfin := HB.out.trans (hb.mono HB.out.size)
        go_wp2
        go_ret
        exact ⟨by rw [HP.out]; rfl, hfin⟩

theorem printed_1 : printed (lo 1) = ⟨#[40, 92, 83, 101, 101, 110, 41]⟩ := by decide +kernel
set_option maxHeartbeats 400000 in
theorem awake08 (w : World) : Calls Try.prog 6 #[] w fun e w' => e = .returned (.bool true) ∧ Below w.heap.size w w' := by
  go_enter Try.func6, Try.ntmps6
  go_wp2_with fail
  refine (print_any 1 w).mono ?_
  rintro e w1 ⟨rfl, hb⟩
  rw [printed_1]
  go_wp2
  go_ret
  exact ⟨rfl, hb⟩
end Go.Proofs.Ytigkjjbdbficnaa
