/-
  Package codec, type Out: what each method does, over a plain state: the bytes so far, and whether it is spoiled.
-/
import Derived.Deep.RegionLaw
import Derived.Deep.RegionHeld3
import Derived.IntWalk
import Derived.Test.YtlhaempecidohaaGreatDoorJad
import Derived.Test.YtlhaempecidohaaGreatDoorJaa
set_option linter.unusedSimpArgs false
set_option linter.unusedVariables false
namespace Go.Proofs.YtlhaempecidohaaGreatDoor
open Go.RowKit
/-- Block g is an Out that holds l, in a row of the call's own. -/
def OutS (w : World) (g base : Nat) (A : Option Addr) (n c : Nat) (l : List Nat) (sp : Bool) : Prop :=
  w.heap[g]? = some (.cells #[.slice A n c, .bool sp] 229 (0, 0)) ∧ Own w base A n c l
section
variable {w w' : World} {g base n c : Nat} {A : Option Addr} {l : List Nat} {sp : Bool}
theorem OutS.ne (h : OutS w g base A n c l sp) : blk A ≠ some g := by
  intro e
  obtain ⟨cs, hh⟩ := h.2.type g e
  rw [h.1] at hh
  simp at hh
theorem OutS.only {S : Nat → Prop} (h : OutS w g base A n c l sp) (ho : Only S w w') (hg : ¬ S g) (hs : ∀ k, blk A = some k → ¬ S k) : OutS w' g base A n c l sp :=
  ⟨ho.heap h.1 hg, h.2.only ho hs⟩
theorem OutS.below (h : OutS w g base A n c l sp) (hb : Below w.heap.size w w') : OutS w' g base A n c l sp :=
  h.only (Only.of_below hb (fun _ => False)) (fun h => h) (fun _ _ h => h)
end
/-- The blocks that an Out at g, its row at A, may turn. -/
def OS (g : Nat) (A : Option Addr) (k : Nat) : Prop := k = g ∨ blk A = some k
/-- What a method of Out leaves: the new state; of what there was only the Out and its row have turned. -/
def Outs (w : World) (g base : Nat) (A : Option Addr) (l : List Nat) (sp : Bool) (e : Ending) (w' : World) : Prop :=
  ∃ A' n' c', e = .returned (.tuple #[]) ∧ OutS w' g base A' n' c' l sp ∧ Only (OS g A) w w' ∧
    (∀ k, blk A' = some k → blk A = some k ∨ w.heap.size ≤ k)
theorem out_step {w wr wm w2 : World} {g base n' c' n2 c2 : Nat} {A A' A2 : Option Addr} {l l2 : List Nat} {sp : Bool} (ho : OutS wr g base A' n' c' l sp) (hon : Only (OS g A) w wr)
    (hbk : ∀ k, blk A' = some k → blk A = some k ∨ w.heap.size ≤ k) (hm : Only (fun _ => False) wr wm) (hown2 : Own w2 base A2 n2 c2 l2) (hon2 : Only (fun k => blk A' = some k) wm w2)
    (hbk2 : blk A2 = blk A' ∨ blk A2 = some wm.heap.size) :
    OutS (w2.setCell ⟨g, 0, none⟩ (.slice A2 n2 c2)) g base A2 n2 c2 l2 sp ∧ Only (OS g A) w (w2.setCell ⟨g, 0, none⟩ (.slice A2 n2 c2)) ∧
      (∀ k, blk A2 = some k → blk A = some k ∨ w.heap.size ≤ k) := by
  have hgl := (Array.getElem?_eq_some_iff.1 ho.1).1
  have hne : blk A2 ≠ some g := by
    rcases hbk2 with h | h
    · rw [h]; exact ho.ne
    · rw [h]; intro e; have := hm.size; injection e; omega
  have h1 : Only (OS g A) w w2 := by
    refine (hon.trans hm (fun _ _ h => h.elim)).trans hon2 (fun k hk e => ?_)
    rcases hbk k e with h | h
    · exact .inr h
    · omega
  have hg2 := hon2.heap (hm.heap ho.1 (fun h => h)) ho.ne
  refine ⟨⟨blk_set hg2 0 _, hown2.only (only_set w2 g 0 _) (fun k hk e => hne (by rw [hk, e]))⟩, h1.setCell (.inl (.inl rfl)) _, fun k hk => ?_⟩
  rcases hbk2 with h | h
  · exact hbk k (by rw [← h]; exact hk)
  · rw [h] at hk
    injection hk with hk
    have := hm.size
    have := hon.size
    exact .inr (by omega)
set_option maxHeartbeats 1000000 in
theorem out_n_loop (g base : Nat) (A : Option Addr) (n c : Nat) (l : List Nat) (sp : Bool) (x s : Nat) (w : World) (h : OutS w g base A n c l sp) (hbase : base ≤ w.heap.size)
    (hs1 : 1 ≤ s) (hs2 : s ≤ 7) (hx : x < 256 ^ s) (hn : n ≤ 10000000) :
    Calls Tryz.prog 141 #[.pointer (some ⟨g, 0, none⟩), .int .i64 (x : Int), .int .i64 (s : Int)] w (Outs w g base A (l ++ beb x s) sp) := by
  have hx2 : x < 72057594037927936 := Nat.lt_of_lt_of_le hx (Nat.pow_le_pow_right (by decide) hs2)
  have d1 : decide ((s : Int) < 1) = false := by simp; omega
  have d2 : decide (7 < (s : Int)) = false := by simp; omega
  have d3 : decide ((x : Int) < 0) = false := by simp
  have d4 : ((x : Int) / 2 ^ (8 * s) != 0) = false := by
    have : (x : Int) / 2 ^ (8 * s) = ((x / 2 ^ (8 * s) : Nat) : Int) := by simp
    rw [this, Nat.pow_mul, Nat.div_eq_of_lt hx]
    rfl
  go_enter Tryz.func141, Tryz.ntmps141
  go_wp2
  go_loopw [6] (fun i wr => ∃ q : Nat, q ≤ s ∧ i = .int .i64 ((q : Int) - 1) ∧ ∃ A' n' c', OutS wr g base A' n' c' (l ++ bebTo x s (s - q)) sp ∧
      Only (OS g A) w wr ∧ (∀ k, blk A' = some k → blk A = some k ∨ w.heap.size ≤ k)) (fun i _ => (intOf i + 1).toNat)
  case atStart => exact ⟨s, Nat.le_refl _, rfl, A, n, c, by simpa [bebTo] using h, Only.refl _ _, fun k hk => .inl hk⟩
  case round =>
    obtain ⟨q, hq, rfl, A', n', c', ho, hon, hbk⟩ := hrel
    have hg := ho.1
    have hown := ho.2
    have hgl := (Array.getElem?_eq_some_iff.1 hg).1
    have c0 : wr.cell? ⟨g, 0, none⟩ = some (.slice A' n' c') := cell_of_row wr g 0 _ _ _ hg
    have f0 : wr.frozen? ⟨g, 0, none⟩ = false := by simp [World.frozen?, hg]
    have HO := Lib.hid ho
    have HB := Lib.hid hbk
    have HN := Lib.hid hon
    have HG := Lib.hid hg
    have hll : n' = n + (s - q) := by rw [← hown.1, List.length_append, bebTo_length, h.2.1]
    have hn' : n' ≤ 10000007 := by omega
    have hsz := hon.size
    have hne : ¬ blk A' = some g := ho.ne
    clear ho hbk hon hg hll
    rcases q with _ | r
    · go_wp2
      go_end0
      rw [Nat.sub_zero] at HO
      exact ⟨A', n', c', rfl, HO.out, HN.out, HB.out⟩
    · rw [show ((r + 1 : Nat) : Int) - 1 = (r : Int) from by omega]
      have e3 : (8 * (r : Int)).toNat = 8 * r := by omega
      have e2 : 0 ≤ 8 * (r : Int) := by omega
      have e1 : IntKind.i64.wrap (8 * (r : Int)) = 8 * (r : Int) := IntWalk.i64_in _ (by omega)
      obtain ⟨y, hy⟩ : ∃ y, y = x / 256 ^ r % 256 := ⟨_, rfl⟩
      have hy2 : y < 256 := by rw [hy]; exact Nat.mod_lt _ (by decide)
      have e4 : IntKind.u8.wrap ((x : Int) / 2 ^ (8 * r)) = (y : Int) := by
        rw [hy, IntKind.wrap_u8', show (256 : Nat) = 2 ^ 8 from rfl, ← Nat.pow_mul]
        simp
      have HY := Lib.hid hy
      clear hy
      go_wp2
      go_region_law (refine step_append_rb rfl _ _ rfl rfl rfl (hown.alloc _) (RB.new wr _ 5 _ [y] rfl (by simpa using hy2)) (by omega) (by simp; omega) ?_; intro A2 c2 w2 hown2 hon2 hbk2; have hrow := hon2.row ((Below.heap_alloc wr (.cells #[.int .u8 (y : Int)] 5) g hgl).trans HG.out) hne; have g0 := hrow.1 0; have g1 := hrow.2.1 0; have HR := Lib.hid hrow.2.2; clear hrow; simp only [List.getElem?_toArray, List.getElem?_cons_zero] at g0)
      all_goals
        have hls : l ++ bebTo x s (s - (r + 1)) ++ [y] = l ++ bebTo x s (s - r) := by
          rw [List.append_assoc]
          congr 1
          have := bebTo_succ x s (s - (r + 1))
          rw [show s - (r + 1) + 1 = s - r from by omega, show s - 1 - (s - (r + 1)) = r from by omega] at this
          rw [this, ← HY.out]
        rw [hls] at hown2
        have R := out_step HO.out HN.out HB.out ((Only.refl _ wr).alloc (.cells #[.int .u8 (y : Int)] 5)).drew hown2 hon2 hbk2
        clear hown2 hon2 hbk2 hls g0 g1 hown c0 f0
        have HR1 := Lib.hid R.1
        have HR2 := Lib.hid R.2.1
        have HR3 := Lib.hid R.2.2
        clear R
        go_wp2
        go_roundw
        case rel => exact ⟨r, by omega, rfl, A2, n' + 1, c2, HR1.out, HR2.out, HR3.out⟩
        case measure => simp [intOf]
theorem out_spoil {w : World} {g base n c : Nat} {A : Option Addr} {l : List Nat} {sp : Bool} (h : OutS w g base A n c l sp) :
    Outs w g base A l true (.returned (.tuple #[])) (w.setCell ⟨g, 1, none⟩ (.bool true)) :=
  ⟨A, n, c, rfl, ⟨blk_set h.1 1 _, h.2.only (only_set w g 1 _) (fun k hk e => h.ne (by rw [hk, e]))⟩, (Only.refl (OS g A) w).setCell (.inl (.inl rfl)) _, fun _ hk => .inl hk⟩
set_option maxHeartbeats 1000000 in
theorem out_n_bad (g base : Nat) (A : Option Addr) (n c : Nat) (l : List Nat) (sp : Bool) (v s : Int) (w : World) (h : OutS w g base A n c l sp)
    (hv1 : -9223372036854775808 ≤ v) (hv2 : v ≤ 9223372036854775807) (hf : ¬ (1 ≤ s ∧ s ≤ 7 ∧ 0 ≤ v ∧ v < 256 ^ s.toNat)) :
    Calls Tryz.prog 141 #[.pointer (some ⟨g, 0, none⟩), .int .i64 v, .int .i64 s] w (Outs w g base A l true) := by
  have hg := h.1
  have c1 : w.cell? ⟨g, 1, none⟩ = some (.bool sp) := cell_of_row w g 1 _ _ _ hg
  have f1 : w.frozen? ⟨g, 1, none⟩ = false := by simp [World.frozen?, hg]
  have H := Lib.hid (out_spoil h)
  clear hg h
  by_cases h1 : s < 1
  · clear hf
    go_enter Tryz.func141, Tryz.ntmps141
    go_wp2
    refine bodyPost_ret (results_none rfl _ _ _) rfl ?_
    exact H.out
  · by_cases h2 : 7 < s
    · clear hf
      go_enter Tryz.func141, Tryz.ntmps141
      go_wp2
      refine bodyPost_ret (results_none rfl _ _ _) rfl ?_
      exact H.out
    · by_cases h3 : v < 0
      · clear hf
        go_enter Tryz.func141, Tryz.ntmps141
        go_wp2
        refine bodyPost_ret (results_none rfl _ _ _) rfl ?_
        exact H.out
      · obtain ⟨x, rfl⟩ := Int.eq_ofNat_of_zero_le (Int.not_lt.1 h3)
        obtain ⟨t, rfl⟩ := Int.eq_ofNat_of_zero_le (show 0 ≤ s by omega)
        have hx : 256 ^ t ≤ x := by
          rcases Nat.lt_or_ge x (256 ^ t) with hlt | hge
          · refine absurd ⟨by omega, by omega, by omega, ?_⟩ hf
            have : ((256 ^ t : Nat) : Int) = 256 ^ t := by simp
            rw [Int.toNat_natCast, ← this]
            omega
          · exact hge
        clear hf
        have d1 : decide ((t : Int) < 1) = false := by simp; omega
        have d2 : decide (7 < (t : Int)) = false := by simp; omega
        have d3 : decide ((x : Int) < 0) = false := by simp
        have d4 : ((x : Int) / 2 ^ (8 * t) != 0) = true := by
          have : (x : Int) / 2 ^ (8 * t) = ((x / 2 ^ (8 * t) : Nat) : Int) := by simp
          rw [this, Nat.pow_mul]
          have : 0 < x / (2 ^ 8) ^ t := Nat.div_pos hx (Nat.pow_pos (by decide))
          rw [bne_iff_ne]
          omega
        have ht7 : t ≤ 7 := by omega
        clear hx h1 h2 h3
        have e3 : (8 * (t : Int)).toNat = 8 * t := by omega
        go_enter Tryz.func141, Tryz.ntmps141
        go_wp2
        refine bodyPost_ret (results_none rfl _ _ _) rfl ?_
        exact H.out
end Go.Proofs.YtlhaempecidohaaGreatDoor
