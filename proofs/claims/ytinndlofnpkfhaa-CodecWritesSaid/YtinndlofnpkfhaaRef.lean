/-
  The reference: Bytes, Number, Text.
-/
import Derived.Test.YtinndlofnpkfhaaOutR
namespace Go.Proofs.Ytinndlofnpkfhaa
open Go.RowKit

/-- What is filled from behind: q zeros, and the bytes from place q on. -/
def filled (x s q : Nat) : List Nat := List.replicate q 0 ++ (beb x s).drop q
theorem filled_zero (x s : Nat) : filled x s 0 = beb x s := by simp [filled]
theorem filled_all (x s : Nat) : filled x s s = List.replicate s 0 := by simp [filled, beb_length]
theorem filled_at (x s r : Nat) : (filled x s (r + 1))[r]? = some 0 := by
  rw [filled, List.getElem?_append_left (by simp), List.getElem?_replicate, if_pos (by omega)]
theorem beb_get (x s r : Nat) (h : r < s) : (beb x s)[r]? = some (x / 256 ^ (s - 1 - r) % 256) := by
  simp [beb, bebTo, h]
theorem filled_set (x s r : Nat) (h : r < s) : (filled x s (r + 1)).set r (x / 256 ^ (s - 1 - r) % 256) = filled x s r := by
  have hl : r < (beb x s).length := by rw [beb_length]; exact h
  have e : (beb x s).drop r = (x / 256 ^ (s - 1 - r) % 256) :: (beb x s).drop (r + 1) := by
    rw [List.drop_eq_getElem_cons hl]
    congr 1
    have := beb_get x s r h
    rw [List.getElem?_eq_getElem hl] at this
    injection this
  unfold filled
  rw [e, List.set_append_left _ _ (by simp), List.replicate_succ', List.set_append_right _ _ (by simp)]
  simp

set_option maxHeartbeats 1000000 in
theorem rbytes (x s : Nat) (w : World) (hx : x < 18446744073709551616) (hs : s ≤ 8) :
    Calls Try.prog 29 #[.int .u64 (x : Int), .int .i64 (s : Int)] w (Cloned w s (beb x s)) := by
  obtain ⟨i0, hi, hz0, hz1, hz2⟩ := info_parts Try.info5
  go_enter Try.func29, Try.ntmps29
  go_wp2_with (at_make; refine wpList_make_full _ rfl _ _ 22 rfl w.heap.size 5 i0 (.int .u8 0) 1 Try.underlying22 hi hz0 hz1 .i64 .i64 _ _ s rfl rfl rfl rfl (by rw [hz2]; omega) (by unfold maxLen; omega) (Nat.le_refl _) ?_; intro w1 hown hgrow)
  have hown' := Own.of_made hown
  have hon := Only.of_grown (S := fun _ => False) hgrow (fun k hk => by cases hk)
  clear hown hgrow
  rw [← filled_all x s] at hown'
  go_loopw [0, 6] (fun v i wr => ∃ q : Nat, q ≤ s ∧ i = .int .i64 ((q : Int) - 1) ∧ v = .int .u64 ((x / 256 ^ (s - q) : Nat) : Int) ∧ Own wr w.heap.size (some ⟨w.heap.size, 0, none⟩) s s (filled x s q) ∧ Only (fun _ => False) w wr)
    (fun _ i _ => (intOf i + 1).toNat)
  case atStart => exact ⟨s, Nat.le_refl _, rfl, by simp, hown', hon⟩
  case round =>
    obtain ⟨q, hq, rfl, rfl, ho, hn⟩ := hrel
    obtain ⟨v, hv⟩ : ∃ v, v = x / 256 ^ (s - q) := ⟨_, rfl⟩
    rw [← hv]
    have hvx : v ≤ x := by rw [hv]; exact Nat.div_le_self _ _
    have hsz := hn.size
    rcases q with _ | r
    · rw [filled_zero] at ho
      have HO := Lib.hid ho
      have HN := Lib.hid hn
      clear ho hn hv
      go_wp2
      go_ret
      exact ⟨_, s, rfl, HO.out, HN.out.none_ (fun _ _ h => h)⟩
    · rw [show ((r + 1 : Nat) : Int) - 1 = (r : Int) from by omega]
      have hc := ho.cellAt (filled_at x s r)
      have hf := ho.frozenAt r
      obtain ⟨y, hy⟩ : ∃ y, y = v % 256 := ⟨_, rfl⟩
      have hy2 : y < 256 := by rw [hy]; exact Nat.mod_lt _ (by decide)
      have hset := ho.set_ r y hy2
      have hvy : y = x / 256 ^ (s - 1 - r) % 256 := by rw [hy, hv, show s - (r + 1) = s - 1 - r from by omega]
      rw [hvy, filled_set x s r (by omega), ← hvy] at hset
      have HO := Lib.hid hset
      have HN := Lib.hid hn
      have e1 : (v : Int) % 256 = (y : Int) := by rw [hy]; simp
      have HV : Hid (v / 256 = x / 256 ^ (s - r)) := by
        show _ = _
        rw [hv, Nat.div_div_eq_div_mul, ← Nat.pow_succ, show (s - (r + 1)).succ = s - r from by omega]
      clear ho hn hv hvy hset hy
      have hon2 : Only (fun _ => False) w (wr.setCell ⟨w.heap.size, r, none⟩ (.int .u8 (y : Int))) := HN.out.setCell (.inr (Nat.le_refl _)) _
      have HN2 := Lib.hid hon2
      clear hon2
      go_wp2
      go_roundw
      case rel => exact ⟨r, by omega, rfl, by rw [← HV.out]; go_num, HO.out, HN2.out⟩
      case measure => simp [intOf]

set_option maxHeartbeats 400000 in
theorem rnumber (A : Option Addr) (n c : Nat) (l : List Nat) (w : World) (h : RB w A n l) (hn : n ≤ 7) :
    Calls Try.prog 23 #[.slice A n c] w fun e w' => e = .returned (.int .u64 ((num l : Nat) : Int)) ∧ w = w' := by
  have hm := h.2.1
  go_enter Try.func23, Try.ntmps23
  go_wp2
  go_loop [3, 7] (fun v i => ∃ k : Nat, k ≤ n ∧ i = .int .i64 k ∧ v = .int .u64 ((num (l.take k) : Nat) : Int)) (fun _ i => n - (intOf i).toNat)
  case atStart => exact ⟨0, Nat.zero_le _, rfl, rfl⟩
  case round =>
    obtain ⟨k, hk, rfl, rfl⟩ := hrel
    by_cases hlt : k < n
    · obtain ⟨ad, x, rfl, hx, hx2, hcell⟩ := h.at_ hlt
      have hl := h.1
      have hv : num (l.take k) < 281474976710656 := num_lt_of (n := 6) (fun y hy => hm y (List.mem_of_mem_take hy)) (by rw [List.length_take]; omega)
      have HS : Hid (num (l.take (k + 1)) = num (l.take k) * 256 + x) := by show _ = _; rw [take_succ' hx, num_snoc]
      have HX := Lib.hid hx
      clear hx hl
      go_wp2
      go_round
      case rel => exact ⟨k + 1, by omega, by go_num, by rw [HS.out]; go_num⟩
      case measure => simp [intOf]; omega
    · obtain rfl : k = n := by omega
      rw [List.take_of_length_le (by rw [h.1]; omega)]
      go_wp2
      go_ret
      exact ⟨rfl, rfl⟩

set_option maxHeartbeats 400000 in
theorem rtext (s : ByteArray) (w : World) (hs : s.size ≤ 500000) :
    Calls Try.prog 31 #[.string s] w fun e w' => ∃ A c, e = .returned (.slice A (2 + s.size) c) ∧ Own w' w.heap.size A (2 + s.size) c (beb s.size 2 ++ ofStr s) ∧ Below w.heap.size w w' := by
  go_enter Try.func31, Try.ntmps31
  go_wp2_with fail
  refine (rbytes s.size 2 w (by omega) (by omega)).mono ?_
  rintro e w1 ⟨A', c', rfl, hown, hb⟩
  go_wp2_with (at_builtin; refine wpList_append_str rfl _ _ rfl rfl rfl hown (by omega) hb.size ?_; intro A2 c2 w2 hown2 hon2)
  go_ret
  exact ⟨A2, c2, rfl, hown2, hb.trans (hon2.below hb.size (fun i hi e => by have := (hown.lt i e).1; omega))⟩
end Go.Proofs.Ytinndlofnpkfhaa
