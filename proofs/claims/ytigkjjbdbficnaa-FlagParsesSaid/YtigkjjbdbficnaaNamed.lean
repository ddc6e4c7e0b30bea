/-
  The walk of the reference's Named.
-/
import Derived.Test.YtigkjjbdbficnaaAlike
import Derived.Test.YtigkjjbdbficnaaParse
import Derived.Test.YtigkjjbdbficnaaRefs
namespace Go.Proofs.Ytigkjjbdbficnaa
open Go.RowKit

/-! ### Plain -/
theorem alikeB_comm (a b : ByteArray) : alikeB a b = alikeB b a := by
  unfold alikeB
  by_cases h : lowS a = lowS b
  · rw [decide_eq_true h, decide_eq_true h.symm]
  · rw [decide_eq_false h, decide_eq_false (fun e => h e.symm)]
def nm (k : Nat) : ByteArray := NM.getD k ⟨#[]⟩
theorem nm_inj : ∀ j < 5, ∀ k < 5, low (ofStr (nm j)) = low (ofStr (nm k)) → j = k := by decide +kernel
theorem alikeB_iff (a b : ByteArray) : alikeB a b = true ↔ low (ofStr a) = low (ofStr b) := by
  unfold alikeB
  rw [decide_eq_true_iff, lowS_of]
theorem idxO_iff (s : ByteArray) (k : Nat) (hk : k < 5) : idxO s = some k ↔ alikeB s (nm k) = true := by
  rw [alikeB_comm]
  constructor
  · intro h
    unfold idxO at h
    exact List.find?_some (p := fun j => alikeB (NM.getD j ⟨#[]⟩) s) h
  · intro h
    unfold idxO
    rw [List.find?_range_eq_some]
    refine ⟨h, by simpa using hk, fun j hj => ?_⟩
    cases hj2 : alikeB (NM.getD j ⟨#[]⟩) s
    · rfl
    · have h1 := (alikeB_iff _ _).1 hj2
      have h2 := (alikeB_iff _ _).1 h
      have := nm_inj j (by omega) k hk (h1.trans h2.symm)
      omega
theorem idxO_some (s : ByteArray) : (idxO s).isSome = true ↔ ∃ k, k < 5 ∧ alikeB s (nm k) = true := by
  constructor
  · intro h
    obtain ⟨k, hk⟩ := Option.isSome_iff_exists.1 h
    exact ⟨k, idxO_lt hk, (idxO_iff s k (idxO_lt hk)).1 hk⟩
  · rintro ⟨k, hk, h⟩
    rw [(idxO_iff s k hk).2 h]
    rfl
/-- The number whose bits are some five. -/
def num5 (h : Nat → Bool) : Nat := (if h 0 then 1 else 0) + (if h 1 then 2 else 0) + (if h 2 then 4 else 0) + (if h 3 then 8 else 0) + (if h 4 then 16 else 0)
theorem num5_or (h : Nat → Bool) (i : Nat) (hi : i < 5) : num5 (fun k => h k || decide (k = i)) = num5 h ||| 2 ^ i := by
  have H : ∀ b0 b1 b2 b3 b4 : Bool, ∀ i < 5, ((if (b0 || decide (0 = i)) then 1 else 0) + (if (b1 || decide (1 = i)) then 2 else 0) + (if (b2 || decide (2 = i)) then 4 else 0) + (if (b3 || decide (3 = i)) then 8 else 0) + (if (b4 || decide (4 = i)) then 16 else 0) : Nat) =
    ((if b0 then 1 else 0) + (if b1 then 2 else 0) + (if b2 then 4 else 0) + (if b3 then 8 else 0) + (if b4 then 16 else 0)) ||| 2 ^ i := by decide +kernel
  exact H (h 0) (h 1) (h 2) (h 3) (h 4) i hi
def hasB (ss : List ByteArray) (k : Nat) : Bool := ss.any fun s => alikeB s (nm k)
theorem hasB_snoc (ss : List ByteArray) (s : ByteArray) (k : Nat) : hasB (ss ++ [s]) k = (hasB ss k || alikeB s (nm k)) := by simp [hasB]
theorem num5_congr {h h' : Nat → Bool} (e : ∀ k, k < 5 → h k = h' k) : num5 h = num5 h' := by
  unfold num5
  rw [e 0 (by omega), e 1 (by omega), e 2 (by omega), e 3 (by omega), e 4 (by omega)]
theorem num5_orOf (ss : List ByteArray) (hall : ∀ s ∈ ss, (idxO s).isSome = true) : num5 (hasB ss) = orOf ss := by
  suffices H : ∀ n, n ≤ ss.length → num5 (hasB (ss.take n)) = orOf (ss.take n) by
    have := H ss.length (Nat.le_refl _)
    rwa [List.take_length] at this
  intro n
  induction n with
  | zero => intro _; rfl
  | succ n ih =>
    intro hn
    obtain ⟨s, hs⟩ : ∃ s, ss[n]? = some s := ⟨_, List.getElem?_eq_getElem (by omega)⟩
    obtain ⟨i, hi⟩ := Option.isSome_iff_exists.1 (hall s (List.mem_of_getElem? hs))
    have e : ss.take (n + 1) = ss.take n ++ [s] := by rw [List.take_add_one, hs]; rfl
    rw [e, orOf_snoc _ _ _ hi, ← ih (by omega), ← num5_or _ _ (idxO_lt hi)]
    apply num5_congr
    intro k hk
    rw [hasB_snoc]
    congr 1
    by_cases hki : k = i
    · subst hki
      rw [decide_eq_true rfl]
      exact (idxO_iff s k hk).1 hi
    · rw [decide_eq_false hki]
      cases h : alikeB s (nm k)
      · rfl
      · have := (idxO_iff s k hk).2 h
        rw [hi] at this
        injection this with this
        exact absurd this.symm hki
/-- The sum of the first k. -/
def numTo (h : Nat → Bool) : Nat → Nat
  | 0 => 0
  | k + 1 => if h k then numTo h k + 2 ^ k else numTo h k
theorem numTo_5 (h : Nat → Bool) : numTo h 5 = num5 h := by
  simp only [numTo, num5]
  cases h 0 <;> cases h 1 <;> cases h 2 <;> cases h 3 <;> cases h 4 <;> rfl
theorem numTo_lt (h : Nat → Bool) (k : Nat) : numTo h k < 2 ^ k := by
  induction k with
  | zero => simp [numTo]
  | succ k ih =>
    rw [numTo]
    split <;> rw [Nat.pow_succ] <;> omega

/-! ### The walk -/
/-- The five bools, as cells. -/
def hv (h : Nat → Bool) : Array Value := #[.bool (h 0), .bool (h 1), .bool (h 2), .bool (h 3), .bool (h 4)]
theorem hv_get (h : Nat → Bool) (k : Nat) (hk : k < 5) : (hv h)[k]? = some (.bool (h k)) := by
  have hcase : k = 0 ∨ k = 1 ∨ k = 2 ∨ k = 3 ∨ k = 4 := by omega
  rcases hcase with rfl | rfl | rfl | rfl | rfl <;> rfl
theorem hv_set (h : Nat → Bool) (k : Nat) (hk : k < 5) : (hv h).setIfInBounds k (.bool true) = hv (fun j => h j || decide (j = k)) := by
  have hcase : k = 0 ∨ k = 1 ∨ k = 2 ∨ k = 3 ∨ k = 4 := by omega
  rcases hcase with rfl | rfl | rfl | rfl | rfl <;> simp [hv]
theorem hv_congr {h h' : Nat → Bool} (e : ∀ k, k < 5 → h k = h' k) : hv h = hv h' := by
  unfold hv
  rw [e 0 (by omega), e 1 (by omega), e 2 (by omega), e 3 (by omega), e 4 (by omega)]

def inn (H : Nat → Bool) (s : ByteArray) (m j : Nat) : Bool := H j || (decide (j < m) && alikeB s (nm j))
def fnd (s : ByteArray) (m : Nat) : Bool := (List.range m).any fun j => alikeB s (nm j)
theorem fnd_succ (s : ByteArray) (m : Nat) : fnd s (m + 1) = (fnd s m || alikeB s (nm m)) := by simp [fnd, List.range_succ]
theorem inn_no (H : Nat → Bool) (s : ByteArray) (m j : Nat) (h : alikeB s (nm m) = false) : inn H s (m + 1) j = inn H s m j := by
  unfold inn
  by_cases hj : j < m
  · rw [decide_eq_true hj, decide_eq_true (show j < m + 1 by omega)]
  · by_cases hj2 : j = m
    · subst hj2; rw [h]; simp
    · rw [decide_eq_false hj, decide_eq_false (show ¬ j < m + 1 by omega)]
theorem inn_yes (H : Nat → Bool) (s : ByteArray) (m j : Nat) (h : alikeB s (nm m) = true) : inn H s (m + 1) j = (inn H s m j || decide (j = m)) := by
  unfold inn
  by_cases hj : j < m
  · rw [decide_eq_true hj, decide_eq_true (show j < m + 1 by omega), decide_eq_false (show ¬ j = m by omega)]; simp
  · by_cases hj2 : j = m
    · subst hj2; rw [h]; simp
    · rw [decide_eq_false hj, decide_eq_false (show ¬ j < m + 1 by omega), decide_eq_false hj2]; simp
theorem fnd_iff (s : ByteArray) : fnd s 5 = (idxO s).isSome := by
  rw [Bool.eq_iff_iff, idxO_some]
  simp [fnd]

set_option maxHeartbeats 2000000 in
theorem named_any (A : Option Addr) (n c : Nat) (ss : List ByteArray) (w : World) (h : RS w A n ss) (hn : n ≤ 1000000) (hsz : ∀ s ∈ ss, s.size ≤ 1000000) :
    Calls Try.prog 13 #[.slice A n c] w fun e w' => ParseR ss e ∧ Below w.heap.size w w' := by
  have hlen := h.1
  have hg0 : (w.alloc (.cells #[.bool false, .bool false, .bool false, .bool false, .bool false] 38)).heap[w.heap.size]? = some (.cells (hv (hasB (ss.take 0))) 38 (0, 0)) := heap_alloc_new w _
  have hb0 : Below w.heap.size w (w.alloc (.cells #[.bool false, .bool false, .bool false, .bool false, .bool false] 38)) := (Below.refl _ w).alloc (Nat.le_refl _) _
  go_enter Try.func13, Try.ntmps13
  go_wp2_with fail
  go_loopw [13] (fun i wr => ∃ k : Nat, k ≤ n ∧ i = .int .i64 k ∧ wr.heap[w.heap.size]? = some (.cells (hv (hasB (ss.take k))) 38 (0, 0)) ∧ (∀ s ∈ ss.take k, (idxO s).isSome = true) ∧ Below w.heap.size w wr) (fun i _ => n - (intOf i).toNat)
  case atStart => exact ⟨0, Nat.zero_le _, rfl, hg0, by simp, hb0⟩
  case round =>
    clear hg0 hb0
    obtain ⟨k, hk, rfl, hg, hall, hbr⟩ := hrel
    have HA := Lib.hid hall
    clear hall
    by_cases hlt : k < n
    · obtain ⟨ad, s, rfl, hs, hcell0⟩ := (h.below hbr).at_ hlt
      have hmem : s ∈ ss := List.mem_of_getElem? hs
      have hss := hsz s hmem
      have HS := Lib.hid (show ss.take (k + 1) = ss.take k ++ [s] by rw [List.take_add_one, hs]; rfl)
      have HM := Lib.hid hmem
      have HSK := Lib.hid hs
      obtain ⟨H, hH⟩ : ∃ H, H = hasB (ss.take k) := ⟨_, rfl⟩
      rw [← hH] at hg
      have HH := Lib.hid hH
      clear hs hmem hH hcell0
      obtain ⟨wo, hwo⟩ : ∃ wo : World, wo = wr := ⟨_, rfl⟩
      have hg1 : wr.heap[w.heap.size]? = some (.cells (hv (inn H s 0)) 38 (0, 0)) := by rw [hg, hv_congr (h := H) (h' := inn H s 0) (fun j _ => by simp [inn])]
      have HBO := Lib.hid hbr
      clear hg hwo
      go_wp2_with fail
      go_loopw [6, 16] (fun f i wr => ∃ m : Nat, m ≤ 5 ∧ i = .int .i64 m ∧ f = .bool (fnd s m) ∧ wr.heap[w.heap.size]? = some (.cells (hv (inn H s m)) 38 (0, 0)) ∧ Below w.heap.size w wr) (fun _ i _ => 5 - (intOf i).toNat)
      case atStart => exact ⟨0, by omega, rfl, rfl, hg1, hbr⟩
      case round =>
        clear hg1 hbr
        obtain ⟨m, hm, rfl, rfl, hg, hbr⟩ := hrel
        have HB := Lib.hid hbr
        by_cases hlt5 : m < 5
        · obtain ⟨ad', s', e1, e2, hcell⟩ := (h.below hbr).at_ hlt
          injection e1 with e1
          subst e1
          have e3 : s' = s := by
            have := e2.symm.trans HSK.out
            injection this
          subst e3
          have CF0 : ∀ W : World, Calls Try.prog 9 #[.int .i64 (m : Int)] W fun e w' => e = .returned (.string (nm m)) ∧ w' = W := fun W => (flag_any m hlt5 W).mono fun e w' ⟨h1, h2⟩ => ⟨h1, h2.symm⟩
          have CF := Lib.hid CF0
          have CA := Lib.hid (fun W => alike_any s' (nm m) W hss)
          have hgc := cell_of_row wr w.heap.size m _ _ _ hg
          rw [hv_get _ m hlt5] at hgc
          have hgf : wr.frozen? ⟨w.heap.size, m, none⟩ = false := by simp [World.frozen?, hg]
          have HG := Lib.hid hg
          have HFS := Lib.hid (fnd_succ s' m)
          have HNO := Lib.hid (fun j => inn_no H s' m j)
          have HYE := Lib.hid (fun j => inn_yes H s' m j)
          have hu := Try.underlying38
          clear e2 hbr hg CF0 hgc hgf
          cases hal : alikeB s' (nm m)
          · rw [hal] at CA HFS
            have HAL := Lib.hid hal
            clear hal
            generalize nm m = N at CF CA
            go_wp2_with fail
            go_quiet ((first | (go_at_call 9; exact Calls.quiet_of_same (CF.out _)) | (go_at_call 19; exact Calls.quiet_of (CA.out _))))
            go_wp2
            go_roundw
            case rel =>
              refine ⟨m + 1, by omega, by go_num, by rw [HFS.out, Bool.or_false], ?_, below_drewN HB.out _⟩
              have e := hv_congr (h := inn H s' (m + 1)) (h' := inn H s' m) (fun j _ => HNO.out j HAL.out)
              rw [e]
              exact HG.out
            case measure => simp [intOf]; omega
          · rw [hal] at CA HFS
            have HAL := Lib.hid hal
            clear hal
            generalize nm m = N at CF CA
            go_wp2_with fail
            go_quiet ((first | (go_at_call 9; exact Calls.quiet_of_same (CF.out _)) | (go_at_call 19; exact Calls.quiet_of (CA.out _))))
            have hgc := cell_of_row wr w.heap.size m _ _ _ HG.out
            rw [hv_get _ m hlt5] at hgc
            have hgf : wr.frozen? ⟨w.heap.size, m, none⟩ = false := by have := HG.out; simp [World.frozen?, this]
            go_wp2
            go_roundw
            case rel =>
              refine ⟨m + 1, by omega, by go_num, by rw [HFS.out, Bool.or_true], ?_, (below_drewN HB.out _).setCell (Nat.le_refl _) _⟩
              have e := hv_congr (h := inn H s' (m + 1)) (h' := fun j => inn H s' m j || decide (j = m)) (fun j _ => HYE.out j HAL.out)
              rw [e, ← hv_set _ m hlt5]
              exact blk_set HG.out m _
            case measure => simp [intOf]; omega
        · obtain rfl : m = 5 := by omega
          have HFI := Lib.hid (fnd_iff s)
          have HG : Hid (wr.heap[w.heap.size]? = some (.cells (hv (hasB (ss.take (k + 1)))) 38 (0, 0))) := by
            show _ = _
            rw [hg, HS.out]
            rw [hv_congr (h := inn H s 5) (h' := hasB (ss.take k ++ [s]))]
            intro j hj
            rw [hasB_snoc, ← HH.out]
            unfold inn
            rw [decide_eq_true hj, Bool.true_and]
          clear hg hbr
          cases hi : idxO s with
          | none =>
            rw [hi] at HFI
            have HI := Lib.hid hi
            have e : fnd s 5 = false := HFI.out
            rw [e]
            clear hi e
            go_wp2
            go_ret2
            exact ⟨parseR_no HM.out HI.out, HB.out⟩
          | some i =>
            rw [hi] at HFI
            have HI := Lib.hid hi
            have e : fnd s 5 = true := HFI.out
            rw [e]
            clear hi e
            go_wp2
            go_roundw
            case rel =>
              refine ⟨k + 1, by omega, by go_num, HG.out, fun x hx => ?_, HB.out⟩
              rw [HS.out] at hx
              rcases List.mem_append.1 hx with hx | hx
              · exact HA.out x hx
              · rw [List.mem_singleton.1 hx, HI.out]; rfl
            case measure => simp [intOf]; omega
    · obtain rfl : k = n := by omega
      have hall := HA.out
      rw [List.take_of_length_le (by omega)] at hall hg
      have hA : allSome ss = true := by rw [allSome, List.all_eq_true]; exact hall
      have HR : Hid (ParseR ss (.returned (.tuple #[.int .i64 ((orOf ss : Nat) : Int), .bool true]))) := by show ParseR _ _; unfold ParseR; rw [hA]; rfl
      have HO : Hid (numTo (hasB ss) 5 = orOf ss) := by show _ = _; rw [numTo_5, num5_orOf ss hall]
      have HB := Lib.hid hbr
      generalize hasB ss = F at *
      clear hall hA hbr
      go_wp2_with fail
      go_loop [8, 9, 32] (fun v bt i => ∃ m : Nat, m ≤ 5 ∧ i = .int .i64 m ∧ v = .int .i64 ((numTo F m : Nat) : Int) ∧ bt = .int .i64 ((2 ^ m : Nat) : Int)) (fun _ _ i => 5 - (intOf i).toNat)
      case atStart => exact ⟨0, by omega, rfl, rfl, rfl⟩
      case round =>
        obtain ⟨m, hm, rfl, rfl, rfl⟩ := hrel
        have hs := numTo_lt F m
        by_cases hlt5 : m < 5
        · have hgc := cell_of_row wr w.heap.size m _ _ _ hg
          rw [hv_get _ m hlt5] at hgc
          have HS : Hid (numTo F (m + 1) = if F m then numTo F m + 2 ^ m else numTo F m) := rfl
          obtain ⟨v, hv'⟩ : ∃ v, v = 2 ^ m := ⟨_, rfl⟩
          have hv2 : v ≤ 16 := by rw [hv']; exact Nat.pow_le_pow_right (n := 2) (by decide) (show m ≤ 4 by omega)
          have hv3 : 2 ^ (m + 1) = v * 2 := by rw [hv', Nat.pow_succ]
          rw [← hv'] at hs HS ⊢
          have HV := Lib.hid hv3
          generalize numTo F m = S at *
          clear hv' hv3
          cases hF : F m
          · rw [hF] at hgc HS
            go_wp2
            go_round
            case rel => exact ⟨m + 1, by omega, by go_num, by rw [HS.out]; rfl, by rw [HV.out]; go_num⟩
            case measure => simp [intOf]; omega
          · rw [hF] at hgc HS
            go_wp2
            go_round
            case rel => exact ⟨m + 1, by omega, by go_num, by rw [HS.out]; simp, by rw [HV.out]; go_num⟩
            case measure => simp [intOf]; omega
        · obtain rfl : m = 5 := by omega
          go_wp2
          go_ret2
          exact ⟨by have := HR.out; rw [← HO.out] at this; exact this, HB.out⟩
end Go.Proofs.Ytigkjjbdbficnaa
