/-
  The walk of flag.Parse.
-/
import Derived.Test.YtigkjjbdbficnaaClos
namespace Go.Proofs.Ytigkjjbdbficnaa
open Go.RowKit

/-- The flags of names that are some. -/
def orOf (ss : List ByteArray) : Nat := ss.foldl (fun f s => match idxO s with | some i => f ||| 2 ^ i | none => f) 0
theorem orOf_snoc (ss : List ByteArray) (s : ByteArray) (i : Nat) (h : idxO s = some i) : orOf (ss ++ [s]) = orOf ss ||| 2 ^ i := by simp [orOf, h]
theorem idxO_lt {s : ByteArray} {i : Nat} (h : idxO s = some i) : i < 5 := by
  unfold idxO at h
  have := List.mem_of_find?_eq_some h
  simpa using this
theorem orOf_lt (ss : List ByteArray) : orOf ss < 32 := by
  unfold orOf
  suffices H : ∀ (ss : List ByteArray) (f : Nat), f < 32 → ss.foldl (fun f s => match idxO s with | some i => f ||| 2 ^ i | none => f) f < 32 from H ss 0 (by decide)
  intro ss
  induction ss with
  | nil => intro f hf; exact hf
  | cons s ss ih =>
    intro f hf
    rw [List.foldl_cons]
    apply ih
    split
    · rename_i i hi
      have := idxO_lt hi
      exact Nat.or_lt_two_pow (n := 5) hf (Nat.pow_lt_pow_right (by decide) this)
    · exact hf
def allSome (ss : List ByteArray) : Bool := ss.all fun s => (idxO s).isSome

def ParseR (ss : List ByteArray) (e : Ending) : Prop :=
  e = if allSome ss then .returned (.tuple #[.int .i64 ((orOf ss : Nat) : Int), .bool true]) else .returned (.tuple #[.int .i64 0, .bool false])
theorem parseR_no {ss : List ByteArray} {s : ByteArray} (h : s ∈ ss) (hs : idxO s = none) : ParseR ss (.returned (.tuple #[.int .i64 0, .bool false])) := by
  have : allSome ss = false := by
    rw [allSome, List.all_eq_false]
    exact ⟨s, h, by rw [hs]; decide⟩
  unfold ParseR
  rw [this]
  rfl
theorem or_i64 (f i : Nat) (hf : f < 32) (hi : i < 5) : bits .or .i64 (f : Int) (2 ^ i) = ((f ||| 2 ^ i : Nat) : Int) := by
  have hp : 2 ^ i < 32 := Nat.pow_lt_pow_right (n := 5) (by decide) hi
  have e : ((2 ^ i : Nat) : Int) = 2 ^ i := by simp
  rw [← e]
  have hx : f ||| 2 ^ i < 32 := Nat.or_lt_two_pow (n := 5) hf hp
  have h1 : ∀ a : Nat, a < 32 → (BitVec.ofInt 64 (a : Int)).toNat = a := by
    intro a ha
    rw [BitVec.ofInt_natCast, BitVec.toNat_ofNat]; exact Nat.mod_eq_of_lt (by omega)
  show IntKind.i64.wrap ((BitVec.ofInt 64 (f : Int) ||| BitVec.ofInt 64 ((2 ^ i : Nat) : Int)).toNat : Int) = _
  rw [BitVec.toNat_or, h1 f hf, h1 _ hp, IntKind.wrap_i64]
  omega

theorem wrap_pow (i : Nat) (hi : i < 5) : wrap64 ((2 : Int) ^ i) = 2 ^ i := by
  have : i = 0 ∨ i = 1 ∨ i = 2 ∨ i = 3 ∨ i = 4 := by omega
  rcases this with rfl | rfl | rfl | rfl | rfl <;> exact IntWalk.wrap64_in _ ⟨by decide, by decide⟩

set_option maxHeartbeats 1000000 in
theorem parse_any (A : Option Addr) (n c : Nat) (ss : List ByteArray) (w : World) (h : RS w A n ss) (hn : n ≤ 1000000) (hsz : ∀ s ∈ ss, s.size ≤ 1000000) :
    Calls Try.prog 10 #[.slice A n c] w fun e w' => ParseR ss e ∧ Below w.heap.size w w' := by
  have hlen := h.1
  go_enter Try.func10, Try.ntmps10
  go_wp2_with fail
  go_loopw [4, 10] (fun v i wr => ∃ k : Nat, k ≤ n ∧ i = .int .i64 k ∧ v = .int .i64 ((orOf (ss.take k) : Nat) : Int) ∧ (∀ s ∈ ss.take k, (idxO s).isSome = true) ∧ Below w.heap.size w wr) (fun _ i _ => n - (intOf i).toNat)
  case atStart => exact ⟨0, Nat.zero_le _, rfl, rfl, by simp, Below.refl _ _⟩
  case round =>
    obtain ⟨k, hk, rfl, rfl, hall, hbr⟩ := hrel
    have HA := Lib.hid hall
    have HB := Lib.hid hbr
    by_cases hlt : k < n
    · obtain ⟨ad, s, rfl, hs, hcell⟩ := (h.below hbr).at_ hlt
      have hmem : s ∈ ss := List.mem_of_getElem? hs
      have hss := hsz s hmem
      have hO := orOf_lt (ss.take k)
      have HS := Lib.hid (show ss.take (k + 1) = ss.take k ++ [s] by rw [List.take_add_one, hs]; rfl)
      have HM := Lib.hid hmem
      generalize hf : orOf (ss.take k) = f at hO ⊢
      have HF := Lib.hid hf
      clear hall hbr hs hmem hf
      go_wp2_with fail
      refine (names_any _).mono ?_
      rintro e w1 ⟨N, rfl, hN, hb1⟩
      have hc1 : w1.cell? ⟨wr.heap.size, 0, none⟩ = some (.string s) := by
        refine cell_later hb1 ?_
        simp [go_sem]
      have hb2 : Below wr.heap.size wr w1 := ((Below.refl _ wr).alloc (Nat.le_refl _) _).trans (hb1.mono (by simp))
      have HI := indexFunc_any N 5 s wr.heap.size w1 hN hc1 hss
      cases hi : idxO s with
      | none =>
        have e1 : idxI s = -1 := by rw [idxI, hi]
        rw [e1] at HI
        have HI' := Lib.hid HI
        have HN := Lib.hid hi
        clear hi e1 HI hc1 hb1
        go_wp2_with fail
        refine HI'.out.mono ?_
        rintro e w2 ⟨rfl, hb3⟩
        go_wp2
        go_ret2
        exact ⟨parseR_no HM.out HN.out, HB.out.trans ((hb2.trans (hb3.mono hb2.size)).mono HB.out.size)⟩
      | some i =>
        have e1 : idxI s = (i : Int) := by rw [idxI, hi]
        rw [e1] at HI
        have HI' := Lib.hid HI
        have HN := Lib.hid hi
        have hi5 := idxO_lt hi
        have hor := or_i64 f i hO hi5
        clear hi e1 HI hc1 hb1
        go_wp2_with fail
        refine HI'.out.mono ?_
        rintro e w2 ⟨rfl, hb3⟩
        have HB3 := Lib.hid (HB.out.trans ((hb2.trans (hb3.mono hb2.size)).mono HB.out.size))
        clear hb2 hb3
        go_wp2
        go_roundw
        case rel =>
          refine ⟨k + 1, by omega, by go_num, by rw [HS.out, orOf_snoc _ _ _ HN.out, HF.out, wrap_pow i hi5, hor], fun x hx => ?_, HB3.out⟩
          rw [HS.out] at hx
          rcases List.mem_append.1 hx with hx | hx
          · exact HA.out x hx
          · rw [List.mem_singleton.1 hx, HN.out]; rfl
        case measure => simp [intOf]; omega
    · obtain rfl : k = n := by omega
      rw [List.take_of_length_le (by omega)] at hall
      have hA : allSome ss = true := by rw [allSome, List.all_eq_true]; exact hall
      have HR : Hid (ParseR ss (.returned (.tuple #[.int .i64 ((orOf ss : Nat) : Int), .bool true]))) := by show ParseR _ _; unfold ParseR; rw [hA]; rfl
      rw [List.take_of_length_le (by omega)]
      clear hall hA hbr
      go_wp2
      go_ret2
      exact ⟨HR.out, HB.out⟩
end Go.Proofs.Ytigkjjbdbficnaa
