/-
  The walk of the law FlagParses.
-/
import Derived.Test.YtigkjjbdbficnaaNamed
namespace Go.Proofs.Ytigkjjbdbficnaa
open Go.RowKit

/-- A slice of texts that came in. -/
def IsSRow (w : World) (a : Option Addr) (len cap : Nat) (ss : List ByteArray) : Prop :=
  (a = none ∧ len = 0 ∧ cap = 0 ∧ ss = []) ∨
  ∃ x, a = some x ∧ len ≤ cap ∧ cap ≤ maxLen ∧ ss.length = cap ∧ (∀ i, i < ss.length → w.cell? (x.add i) = some (.string (ss.getD i ByteArray.empty))) ∧ ∀ s ∈ ss, s.size ≤ maxLen
theorem RS.of_row {w : World} {a : Option Addr} {len cap : Nat} {ss : List ByteArray} (h : IsSRow w a len cap ss) : RS w a len (ss.take len) ∧ ∀ s ∈ ss.take len, s.size ≤ maxLen := by
  rcases h with ⟨rfl, rfl, rfl, rfl⟩ | ⟨x, rfl, hl, hm, hz, hc, hw⟩
  · exact ⟨⟨rfl, fun h => absurd h (by omega)⟩, by simp⟩
  · refine ⟨⟨by rw [List.length_take]; omega, fun _ => ⟨x, rfl, ?_⟩⟩, fun s hs => hw s (List.mem_of_mem_take hs)⟩
    intro j s hj
    have hjl : j < len := by
      have := (List.getElem?_eq_some_iff.1 hj).1
      rw [List.length_take] at this
      omega
    rw [List.getElem?_take_of_lt hjl] at hj
    rw [hc j (by omega), List.getD_eq_getElem?_getD, hj]
    rfl

set_option maxHeartbeats 1000000 in
theorem flagParses_walk (a0 : Option Addr) (len0 cap0 : Nat) (z0 : List ByteArray) (w : World) (w0 : IsSRow w a0 len0 cap0 z0) :
    Calls Try.prog 5 #[.slice a0 len0 cap0] w fun e w' => e = .returned (.bool true) ∧ Below w.heap.size w w' := by
  obtain ⟨hr, hsz⟩ := RS.of_row w0
  obtain ⟨ss, hss⟩ : ∃ ss, ss = z0.take len0 := ⟨_, rfl⟩
  rw [← hss] at hr hsz
  clear hss w0
  by_cases hn : 50 < len0
  · clear hr
    go_enter Try.func5, Try.ntmps5
    go_wp2_with fail
    refine (awake08 _).mono ?_
    rintro e w1 ⟨rfl, hb1⟩
    go_wp2_with fail
    refine (awake08 _).mono ?_
    rintro e w2 ⟨rfl, hb2⟩
    go_wp2
    go_ret
    exact ⟨rfl, hb1.trans (hb2.mono hb1.size)⟩
  · have HZ := Lib.hid hsz
    have hlen := hr.1
    clear hsz
    go_enter Try.func5, Try.ntmps5
    go_wp2_with fail
    refine (awake08 _).mono ?_
    rintro e w1 ⟨rfl, hb1⟩
    have hr1 := hr.below hb1
    go_wp2_with fail
    go_loop [18] (fun i => ∃ k : Nat, k ≤ len0 ∧ i = .int .i64 k ∧ ∀ s ∈ ss.take k, s.size ≤ 100) (fun i => len0 - (intOf i).toNat)
    case atStart => exact ⟨0, Nat.zero_le _, rfl, by simp⟩
    case round =>
      obtain ⟨k, hk, rfl, hall⟩ := hrel
      have HA := Lib.hid hall
      clear hall
      by_cases hlt : k < len0
      · obtain ⟨ad, s, rfl, hs, hcell⟩ := hr1.at_ hlt
        have hmem : s ∈ ss := List.mem_of_getElem? hs
        have HS := Lib.hid (show ss.take (k + 1) = ss.take k ++ [s] by rw [List.take_add_one, hs]; rfl)
        have hmx := HZ.out s hmem
        unfold maxLen at hmx
        clear hs hmem
        by_cases hbig : 100 < s.size
        · go_wp2
          go_ret
          exact ⟨rfl, hb1⟩
        · go_wp2
          go_round
          case rel =>
            refine ⟨k + 1, by omega, by go_num, fun x hx => ?_⟩
            rw [HS.out] at hx
            rcases List.mem_append.1 hx with hx | hx
            · exact HA.out x hx
            · rw [List.mem_singleton.1 hx]; omega
          case measure => simp [intOf]; omega
      · obtain rfl : k = len0 := by omega
        have hall := HA.out
        rw [List.take_of_length_le (by omega)] at hall
        have hsm : ∀ s ∈ ss, s.size ≤ 1000000 := fun s hs => Nat.le_trans (hall s hs) (by omega)
        have HP := Lib.hid (parse_any a0 k cap0 ss w1 hr1 (by omega) hsm)
        have HN := Lib.hid (fun (W : World) (hW : RS W a0 k ss) => named_any a0 k cap0 ss W hW (by omega) hsm)
        have HR := Lib.hid hr1
        clear hall hsm hr1
        go_wp2_with fail
        refine HP.out.mono ?_
        rintro e w2 ⟨he, hb2⟩
        have hb3 := hb1.trans (hb2.mono hb1.size)
        have HN2 := Lib.hid (HN.out w2 (HR.out.below hb2))
        unfold ParseR at he
        cases hA : allSome ss
        · rw [hA] at he
          have HA2 := Lib.hid hA
          obtain rfl : e = .returned (.tuple #[.int .i64 0, .bool false]) := he
          clear hA hb2
          go_wp2_with fail
          refine HN2.out.mono ?_
          rintro e w3 ⟨he, hb4⟩
          unfold ParseR at he
          rw [HA2.out] at he
          obtain rfl : e = .returned (.tuple #[.int .i64 0, .bool false]) := he
          have hb5 := hb3.trans (hb4.mono hb3.size)
          clear hb4 hb3
          go_wp2
          go_ret
          exact ⟨rfl, hb5⟩
        · rw [hA] at he
          have HA2 := Lib.hid hA
          obtain rfl : e = .returned (.tuple #[.int .i64 ((orOf ss : Nat) : Int), .bool true]) := he
          clear hA hb2
          go_wp2_with fail
          refine HN2.out.mono ?_
          rintro e w3 ⟨he, hb4⟩
          unfold ParseR at he
          rw [HA2.out] at he
          obtain rfl : e = .returned (.tuple #[.int .i64 ((orOf ss : Nat) : Int), .bool true]) := he
          have hb5 := hb3.trans (hb4.mono hb3.size)
          clear hb4 hb3
          go_wp2
          go_ret
          exact ⟨by simp, hb5⟩
end Go.Proofs.Ytigkjjbdbficnaa
