/-
  Words for memory: a slice of bytes that reads as a list of numbers. The walk of sum.CRC.
-/
import Derived.WalkKit
import Derived.WalkSpells
import Derived.Lib.Hide
import Derived.Lib.SlBytesConst
import Derived.OpenShut
import Derived.WalkLawsBesides
import Derived.Test.YtlhaempecidohaaGreatDoorProg
import Derived.Test.YtlhaempecidohaaGreatDoorJaa
set_option linter.unusedSimpArgs false
set_option linter.unusedVariables false
namespace Go.Proofs.YtlhaempecidohaaGreatDoor
open Go.RowKit
/-- The slice value '.slice A n c' reads, in w, as the bytes l. -/
def RB (w : World) (A : Option Addr) (n : Nat) (l : List Nat) : Prop :=
  l.length = n ∧ (∀ x ∈ l, x < 256) ∧ (0 < n → ∃ ad, A = some ad ∧ ∀ (j x : Nat), l[j]? = some x → w.cell? (ad.add j) = some (.int .u8 (x : Int)))
theorem RB.at_ {w : World} {A : Option Addr} {n : Nat} {l : List Nat} (h : RB w A n l) {k : Nat} (hk : k < n) :
    ∃ ad x, A = some ad ∧ l[k]? = some x ∧ x < 256 ∧ w.cell? (ad.add k) = some (.int .u8 (x : Int)) := by
  obtain ⟨h1, h2, h3⟩ := h
  obtain ⟨ad, e, hc⟩ := h3 (by omega)
  have hl : k < l.length := by omega
  exact ⟨ad, l[k], e, List.getElem?_eq_getElem hl, h2 _ (List.getElem_mem hl), hc k _ (List.getElem?_eq_getElem hl)⟩
/-- A slice of integers that came in. -/
def IsRow (k : IntKind) (w : World) (a : Option Addr) (len cap : Nat) (zs : List Int) : Prop :=
  (a = none ∧ len = 0 ∧ cap = 0 ∧ zs = []) ∨
  ∃ x, a = some x ∧ len ≤ cap ∧ cap ≤ maxLen ∧ zs.length = cap ∧ (∀ i, i < zs.length → w.cell? (x.add i) = some (.int k (zs.getD i 0))) ∧ ∀ n ∈ zs, (Lit.int k n).wf = true
def nats (zs : List Int) : List Nat := zs.map Int.toNat
theorem RB.of_row {w : World} {a : Option Addr} {len cap : Nat} {zs : List Int} (h : IsRow .u8 w a len cap zs) : RB w a len (nats (zs.take len)) := by
  rcases h with ⟨rfl, rfl, rfl, rfl⟩ | ⟨x, rfl, hl, hm, hz, hc, hw⟩
  · exact ⟨by simp [nats], by simp [nats], fun h => absurd h (by omega)⟩
  · refine ⟨by simp [nats]; omega, ?_, fun _ => ⟨x, rfl, ?_⟩⟩
    · intro y hy
      simp only [nats, List.mem_map] at hy
      obtain ⟨z, hz', rfl⟩ := hy
      have := bounds_u8 (hw z (List.mem_of_mem_take hz'))
      omega
    · intro j y hj
      simp only [nats, List.getElem?_map, Option.map_eq_some_iff] at hj
      obtain ⟨z, hz', rfl⟩ := hj
      have hjl : j < len := by
        rcases Nat.lt_or_ge j len with h | h
        · exact h
        · rw [List.getElem?_eq_none (by rw [List.length_take]; omega)] at hz'; cases hz'
      rw [List.getElem?_take_of_lt hjl] at hz'
      have hmem : z ∈ zs := List.mem_of_getElem? hz'
      have hb := bounds_u8 (hw z hmem)
      have := hc j (by omega)
      rw [this]
      have e : zs.getD j 0 = z := by rw [List.getD_eq_getElem?_getD, hz']; rfl
      rw [e]
      congr 2
      omega
/-- A block that was just laid, of bytes. -/
theorem RB.new (w : World) (cs : Array Value) (t : TypeId) (fr : Nat × Nat) (l : List Nat) (h : cs.toList = l.map fun (x : Nat) => Value.int .u8 (x : Int)) (hb : ∀ x ∈ l, x < 256) :
    RB (w.alloc (.cells cs t fr)) (some ⟨w.heap.size, 0, none⟩) l.length l := by
  refine ⟨rfl, hb, fun _ => ⟨_, rfl, fun j x hj => ?_⟩⟩
  have e : cs[j]? = some (.int .u8 (x : Int)) := by
    rw [← Array.getElem?_toList, h, List.getElem?_map, hj]; rfl
  have e2 : (⟨w.heap.size, 0, none⟩ : Addr).add j = ⟨w.heap.size, j, none⟩ := by
    by_cases h0 : j = 0
    · subst h0; rfl
    · simp [Addr.add, h0]
  rw [e2, cell_of_row _ _ _ cs t fr (heap_alloc_new w _), e]
theorem RB.below {w w' : World} {A : Option Addr} {n : Nat} {l : List Nat} (h : RB w A n l) (hb : Below w.heap.size w w') : RB w' A n l := by
  obtain ⟨h1, h2, h3⟩ := h
  refine ⟨h1, h2, fun hn => ?_⟩
  obtain ⟨ad, e, hc⟩ := h3 hn
  exact ⟨ad, e, fun j x hj => cell_later hb (hc j x hj)⟩
end Go.Proofs.YtlhaempecidohaaGreatDoor
namespace Go.Proofs.YtlhaempecidohaaGreatDoor
open Go.RowKit
theorem take_succ' {l : List Nat} {k x : Nat} (h : l[k]? = some x) : l.take (k + 1) = l.take k ++ [x] := by
  rw [List.take_add_one, h]; rfl
theorem ret_u32 {a b : Int} (h : a = b) : Ending.returned (.int .u32 a) = .returned (.int .u32 b) := by rw [h]
theorem bxor (a b : Nat) (ha : a < 4294967296) (hb : b < 4294967296) : bits .xor .u32 (a : Int) (b : Int) = ((a ^^^ b : Nat) : Int) := u32_xor_nat a b ha hb
set_option maxHeartbeats 400000 in
theorem crc_any (A : Option Addr) (n c : Nat) (l : List Nat) (w : World) (h : RB w A n l) (hn : n ≤ 10000000) :
    Calls Tryz.prog 204 #[.slice A n c] w fun e w' => e = .returned (.int .u32 ((Crc.crc l : Nat) : Int)) ∧ w = w' := by
  go_enter Tryz.func204, Tryz.ntmps204
  go_wp2
  go_loop [3, 9] (fun v i => ∃ k : Nat, k ≤ n ∧ i = .int .i64 k ∧ v = .int .u32 ((Crc.all (l.take k) 4294967295 : Nat) : Int)) (fun _ i => n - (intOf i).toNat)
  case atStart => exact ⟨0, Nat.zero_le _, rfl, rfl⟩
  case round =>
    obtain ⟨k, hk, rfl, rfl⟩ := hrel
    by_cases hlt : k < n
    · obtain ⟨ad, x, rfl, hx, hx2, hcell⟩ := h.at_ hlt
      have hlc : Crc.all (l.take k) 4294967295 < 4294967296 := Crc.all_lt _ _ (by decide) (fun y hy => h.2.1 y (List.mem_of_mem_take hy))
      obtain ⟨q, hq⟩ : ∃ q, q = Crc.all (l.take k) 4294967295 := ⟨_, rfl⟩
      rw [← hq] at hlc ⊢
      have HX := Lib.hid hx
      have HQ := Lib.hid hq
      clear hx hq
      have b1 := bxor q x hlc (by omega)
      go_wp2
      go_loop [3, 17] (fun v i => ∃ m : Nat, m ≤ 8 ∧ i = .int .i64 m ∧ v = .int .u32 ((Crc.halves m (q ^^^ x) : Nat) : Int)) (fun _ i => 8 - (intOf i).toNat)
      case atStart => exact ⟨0, Nat.zero_le _, rfl, rfl⟩
      case round =>
        obtain ⟨m, hm, rfl, rfl⟩ := hrel
        have hp : Crc.halves m (q ^^^ x) < 4294967296 := Crc.halves_lt _ _ (Nat.xor_lt_two_pow (n := 32) (by omega) (by omega))
        have HS := Lib.hid (show Crc.halves (m + 1) (q ^^^ x) = Crc.half (Crc.halves m (q ^^^ x)) from rfl)
        obtain ⟨p, hpe⟩ : ∃ p, p = Crc.halves m (q ^^^ x) := ⟨_, rfl⟩
        rw [← hpe] at hp HS ⊢
        have HP := Lib.hid hpe
        clear b1 hpe
        have b2 : bits .and .u32 (p : Int) 1 = ((p % 2 : Nat) : Int) := by have := u32_and_nat p 1 hp (by decide); simpa [Nat.and_one_is_mod] using this
        have b3 : bits .xor .u32 ((p : Int) / 2) 3988292384 = ((p / 2 ^^^ Crc.turn : Nat) : Int) := u32_xor_nat (p / 2) _ (by omega) (by decide)
        by_cases hmm : m < 8
        · by_cases hodd : p % 2 = 1
          · have HH : Hid (Crc.half p = (p / 2 ^^^ Crc.turn)) := by show _ = _; unfold Crc.half; rw [if_pos hodd]
            go_wp2
            go_round
            case rel => exact ⟨m + 1, by omega, by go_num, by rw [HS.out, HH.out]⟩
            case measure => simp [intOf]; omega
          · have HH : Hid (Crc.half p = (p / 2)) := by show _ = _; unfold Crc.half; rw [if_neg hodd]
            go_wp2
            go_round
            case rel => exact ⟨m + 1, by omega, by go_num, by rw [HS.out, HH.out]; go_num⟩
            case measure => simp [intOf]; omega
        · obtain rfl : m = 8 := by omega
          clear HS b2 b3
          go_wp2
          go_round
          case rel => exact ⟨k + 1, by omega, by go_num, by rw [HP.out, take_succ' HX.out, Crc.all_snoc, ← HQ.out]; rfl⟩
          case measure => simp [intOf]; omega
    · obtain rfl : k = n := by omega
      have hlc : Crc.all l 4294967295 < 4294967296 := Crc.all_lt _ _ (by decide) h.2.1
      have b1 := bxor (Crc.all l 4294967295) 4294967295 hlc (by decide)
      rw [List.take_of_length_le (by rw [h.1]; omega)]
      go_wp2
      go_ret
      exact ⟨ret_u32 b1, rfl⟩
end Go.Proofs.YtlhaempecidohaaGreatDoor
