/-
  The walk of sum.schedule.
-/
import Derived.Test.YtinndlofnpkfhaaOwn
import Derived.Test.YtinndlofnpkfhaaRot
import Derived.Laws.CopyOwn
import Derived.StillTailTactics
import Derived.BigQuiet
import Derived.Deep.QuietTactic
namespace Go.Proofs.Ytinndlofnpkfhaa
open Go.RowKit

/-- What a schedule S of a block b is. -/
structure IsSched (b S : List Nat) : Prop where
  len : S.length = 64
  lt : ∀ j, S.getD j 0 < 4294967296
  first : ∀ j, j < 16 → S.getD j 0 = Sha.be b j
  next : ∀ j, 16 ≤ j → j < 64 → S.getD j 0 = (S.getD (j - 16) 0 + Sha.low (S.getD (j - 15) 0) + S.getD (j - 7) 0 + Sha.high (S.getD (j - 2) 0)) % 4294967296

/-- Two arrays that were just laid. -/
theorem lay1 (w : World) (k : IntKind) (T : TypeId) (n : Nat) : ∃ w1 l, w1 = w.alloc (.cells (mk k (List.replicate n 0)) T) ∧ l.length = n ∧ w1.heap.size = w.heap.size + 1 ∧ Below w.heap.size w w1 ∧ Ar w1 w.heap.size k T l :=
  ⟨_, _, rfl, List.length_replicate, by simp, (Below.refl _ _).alloc (Nat.le_refl _) _, Ar.new _ _ _ _⟩

attribute [local irreducible] Calls in
set_option maxRecDepth 8000 in
set_option maxHeartbeats 1000000 in
theorem sched_any (A : Option Addr) (n c : Nat) (b S : List Nat) (w : World) (hb : RB w A n b) (hn : 64 ≤ n) (hS : IsSched b S) :
    Calls Try.prog 59 #[.slice A n c] w fun e w' => e = .returned (.agg (mk .u32 S)) ∧ Below w.heap.size w w' := by
  have HS := Lib.hid hS
  clear hS
  go_enter Try.func59, Try.ntmps59
  obtain ⟨w0, z0, hw0, hz0, hs0, hB0, hA0⟩ := lay1 w .u32 89 64
  obtain ⟨w1, z1, hw1, hz1, hs1, hB1, hA1⟩ := lay1 w0 .u32 89 64
  have HW0 := Lib.hid hw0
  have HW1 := Lib.hid hw1
  have hA01 : Ar w1 w.heap.size .u32 89 z0 := hA0.below hB1
  rw [hs0] at hs1 hA1
  have HBB := Lib.hid (hB0.trans (hB1.mono hB0.size))
  clear hw0 hw1 hB0 hB1 hA0
  go_wp2_with (first
    | (refine wpList_alloc_ar rfl 89 rfl .u32 64 z89 ?_; first | rw [← HW0.out] | rw [← HW1.out]))
  clear HW0 HW1
  go_loopw [10] (fun i wr => ∃ (k : Nat) (l : List Nat), k ≤ 16 ∧ i = .int .i64 k ∧ l.length = 64 ∧ (∀ j, j < k → l.getD j 0 = S.getD j 0) ∧ Ar wr (w.heap.size + 1) .u32 89 l ∧ Ar wr w.heap.size .u32 89 z0 ∧ Below w.heap.size w wr) (fun i _ => 16 - (intOf i).toNat)
  case atStart => exact ⟨0, _, Nat.zero_le _, rfl, hz1, fun j hj => absurd hj (by omega), hA1, hA01, HBB.out⟩
  case round =>
    obtain ⟨k, l, hk, rfl, hl, hlk, hA, hA', hB⟩ := hrel
    by_cases hlt : k < 16
    · obtain ⟨ad, x0, rfl, hx0, hl0, hc0⟩ := (hb.below hB).at_ (k := 4 * k) (by omega)
      obtain ⟨_, x1, e1, hx1, hl1, hc1⟩ := (hb.below hB).at_ (k := 4 * k + 1) (by omega)
      obtain rfl := Option.some.inj e1
      obtain ⟨_, x2, e2, hx2, hl2, hc2⟩ := (hb.below hB).at_ (k := 4 * k + 2) (by omega)
      obtain rfl := Option.some.inj e2
      obtain ⟨_, x3, e3, hx3, hl3, hc3⟩ := (hb.below hB).at_ (k := 4 * k + 3) (by omega)
      obtain rfl := Option.some.inj e3
      have hd1 := hA.cellD (i := k) (by omega)
      have hd2 := hA.frozen k
      have hbe : S.getD k 0 = ((x0 * 16777216 ||| x1 * 65536) ||| x2 * 256) ||| x3 := by
        rw [HS.out.first k hlt, Sha.be_or hx0 hx1 hx2 hx3 hl1 hl2 hl3]
      obtain ⟨y, hy⟩ : ∃ y, y = S.getD k 0 := ⟨_, rfl⟩
      rw [← hy] at hbe
      obtain ⟨i0, m0⟩ : IntKind.i64.wrap (4 * (k : Int)) = ((4 * k : Nat) : Int) ∧ 4 * k < n := ⟨by rw [IntKind.wrap_i64]; omega, by omega⟩
      obtain ⟨i1, m1⟩ : IntKind.i64.wrap (((4 * k : Nat) : Int) + 1) = ((4 * k + 1 : Nat) : Int) ∧ 4 * k + 1 < n := ⟨by rw [IntKind.wrap_i64]; omega, by omega⟩
      obtain ⟨i2, m2⟩ : IntKind.i64.wrap (((4 * k : Nat) : Int) + 2) = ((4 * k + 2 : Nat) : Int) ∧ 4 * k + 2 < n := ⟨by rw [IntKind.wrap_i64]; omega, by omega⟩
      obtain ⟨i3, m3⟩ : IntKind.i64.wrap (((4 * k : Nat) : Int) + 3) = ((4 * k + 3 : Nat) : Int) ∧ 4 * k + 3 < n := ⟨by rw [IntKind.wrap_i64]; omega, by omega⟩
      have v0 : IntKind.u32.wrap (x0 : Int) = x0 := by rw [IntKind.wrap_u32]; omega
      have v1 : IntKind.u32.wrap (x1 : Int) = x1 := by rw [IntKind.wrap_u32]; omega
      have v2 : IntKind.u32.wrap (x2 : Int) = x2 := by rw [IntKind.wrap_u32]; omega
      have v3 : IntKind.u32.wrap (x3 : Int) = x3 := by rw [IntKind.wrap_u32]; omega
      obtain ⟨a0, ha0⟩ : ∃ a, a = x0 * 16777216 := ⟨_, rfl⟩
      obtain ⟨a1, ha1⟩ : ∃ a, a = x1 * 65536 := ⟨_, rfl⟩
      obtain ⟨a2, ha2⟩ : ∃ a, a = x2 * 256 := ⟨_, rfl⟩
      rw [← ha0, ← ha1, ← ha2] at hbe
      have u0 : IntKind.u32.wrap ((x0 : Int) * 16777216) = (a0 : Int) := by rw [IntKind.wrap_u32]; omega
      have u1 : IntKind.u32.wrap ((x1 : Int) * 65536) = (a1 : Int) := by rw [IntKind.wrap_u32]; omega
      have u2 : IntKind.u32.wrap ((x2 : Int) * 256) = (a2 : Int) := by rw [IntKind.wrap_u32]; omega
      have k0 : a0 < 2 ^ 32 := by omega
      have k1 : a1 < 2 ^ 32 := by omega
      have k2 : a2 < 2 ^ 32 := by omega
      have b1 := u32_or_nat a0 a1 k0 k1
      have b2 := u32_or_nat (a0 ||| a1) a2 (Nat.or_lt_two_pow k0 k1) k2
      have b3 := u32_or_nat ((a0 ||| a1) ||| a2) x3 (Nat.or_lt_two_pow (Nat.or_lt_two_pow k0 k1) k2) (by omega)
      rw [← hbe] at b3
      generalize (a0 ||| a1) ||| a2 = c2 at b2 b3
      generalize a0 ||| a1 = c1 at b1 b2
      generalize 4 * k = q0 at *
      generalize q0 + 1 = q1 at *
      generalize q0 + 2 = q2 at *
      generalize q0 + 3 = q3 at *
      have HB := Lib.hid hB
      have HA := Lib.hid hA
      have HA' := Lib.hid hA'
      have HK := Lib.hid hlk
      have HL := Lib.hid hl
      have HY := Lib.hid hy
      have HB0 := Lib.hid hb
      clear e1 e2 e3 hA1 hA01 hB hA hA' hlk hl hx0 hx1 hx2 hx3 hs0 hs1 HBB hb hy hbe ha0 ha1 ha2 k0 k1 k2 hl0 hl1 hl2 hl3
      have hk64 : (k : Int) < 64 := by omega
      go_wp2_with fail
      go_still_tail 35, (by kernel_rfl)
      change wpList _ _ _ _ _ wr.drew
      go_wp2
      go_roundw
      case rel =>
        have hset := (HA.out.drew).set k y
        refine ⟨k + 1, l.set k y, by omega, by go_num, by rw [List.length_set]; exact HL.out, fun j hj => ?_, hset, (HA'.out.drew).other _ _ (by simp), HB.out.drew.setCell (by simp) _⟩
        rw [set_getD, HL.out]
        by_cases e : j = k
        · subst e; rw [if_pos ⟨rfl, by omega⟩, HY.out]
        · rw [if_neg (fun h => e h.1)]; exact HK.out j (by omega)
      case measure => simp [intOf]; omega
    · have HK0 : Hid (∀ j, j < 16 → l.getD j 0 = S.getD j 0) := fun j hj => hlk j (by omega)
      have HL0 := Lib.hid hl
      clear hA1 hA01 hs0 hs1 HBB hlk hl hb
      go_wp2
      clear hlt hk
      go_loopw [5] (fun i wr => ∃ (k : Nat) (l : List Nat), 16 ≤ k ∧ k ≤ 64 ∧ i = .int .i64 k ∧ l.length = 64 ∧ (∀ j, j < k → l.getD j 0 = S.getD j 0) ∧ Ar wr (w.heap.size + 1) .u32 89 l ∧ Ar wr w.heap.size .u32 89 z0 ∧ Below w.heap.size w wr) (fun i _ => 64 - (intOf i).toNat)
      case atStart => exact ⟨16, l, Nat.le_refl _, by decide, rfl, HL0.out, HK0.out, hA, hA', hB⟩
      case round =>
        clear hA hA' hB HK0 HL0
        obtain ⟨k, l, hk16, hk, rfl, hl, hlk, hA, hA', hB⟩ := hrel
        by_cases hlt : k < 64
        · have c15 := hA.cellD (i := k - 15) (by omega)
          have c2 := hA.cellD (i := k - 2) (by omega)
          have c16 := hA.cellD (i := k - 16) (by omega)
          have c7 := hA.cellD (i := k - 7) (by omega)
          have hd1 := hA.cellD (i := k) (by omega)
          have hd2 := hA.frozen k
          rw [hlk _ (by omega)] at c15 c2 c16 c7
          have hnx := HS.out.next k hk16 hlt
          have lp := HS.out.lt (k - 15)
          have lq := HS.out.lt (k - 2)
          have la := HS.out.lt (k - 16)
          have ld := HS.out.lt (k - 7)
          obtain ⟨y, hy⟩ : ∃ y, y = S.getD k 0 := ⟨_, rfl⟩
          rw [← hy] at hnx
          generalize S.getD (k - 15) 0 = p at *
          generalize S.getD (k - 2) 0 = q at *
          generalize S.getD (k - 16) 0 = a at *
          generalize S.getD (k - 7) 0 = d at *
          have llo := Sha.low_lt lp
          have lhi := Sha.high_lt lq
          obtain ⟨lo, hlo⟩ : ∃ x, x = Sha.low p := ⟨_, rfl⟩
          obtain ⟨hi, hhi⟩ : ∃ x, x = Sha.high q := ⟨_, rfl⟩
          rw [← hlo] at llo hnx
          rw [← hhi] at lhi hnx
          obtain ⟨m1, x1, x2⟩ := xor3 (Sha.ror p 7) (Sha.ror p 18) (p / 8) lo (Sha.ror_lt lp) (Sha.ror_lt lp) (Sha.div_lt' lp) ((p : Int) / 8) (by omega) hlo
          obtain ⟨m2, x3, x4⟩ := xor3 (Sha.ror q 17) (Sha.ror q 19) (q / 1024) hi (Sha.ror_lt lq) (Sha.ror_lt lq) (Sha.div_lt' lq) ((q : Int) / 1024) (by omega) hhi
          obtain ⟨s1, t1⟩ : ∃ s : Nat, s = (a + lo) % 4294967296 := ⟨_, rfl⟩
          obtain ⟨s2, t2⟩ : ∃ s : Nat, s = (s1 + d) % 4294967296 := ⟨_, rfl⟩
          have t1' : IntKind.u32.wrap ((a : Int) + (lo : Int)) = (s1 : Int) := by rw [IntKind.wrap_u32]; omega
          have t2' : IntKind.u32.wrap ((s1 : Int) + (d : Int)) = (s2 : Int) := by rw [IntKind.wrap_u32]; omega
          have t3' : IntKind.u32.wrap ((s2 : Int) + (hi : Int)) = (y : Int) := by rw [IntKind.wrap_u32]; omega
          have j15 : IntKind.i64.wrap ((k : Int) - 15) = ((k - 15 : Nat) : Int) := by rw [IntKind.wrap_i64]; omega
          have j2 : IntKind.i64.wrap ((k : Int) - 2) = ((k - 2 : Nat) : Int) := by rw [IntKind.wrap_i64]; omega
          have j16 : IntKind.i64.wrap ((k : Int) - 16) = ((k - 16 : Nat) : Int) := by rw [IntKind.wrap_i64]; omega
          have j7 : IntKind.i64.wrap ((k : Int) - 7) = ((k - 7 : Nat) : Int) := by rw [IntKind.wrap_i64]; omega
          have r15 : ((k - 15 : Nat) : Int) < 64 := by omega
          have r2 : ((k - 2 : Nat) : Int) < 64 := by omega
          have r16 : ((k - 16 : Nat) : Int) < 64 := by omega
          have r7 : ((k - 7 : Nat) : Int) < 64 := by omega
          have hk64 : (k : Int) < 64 := by omega
          generalize k - 15 = i15 at *
          generalize k - 2 = i2 at *
          generalize k - 16 = i16 at *
          generalize k - 7 = i7 at *
          have HB := Lib.hid hB
          have HA := Lib.hid hA
          have HA' := Lib.hid hA'
          have HK := Lib.hid hlk
          have HL := Lib.hid hl
          have HY := Lib.hid hy
          clear hB hA hA' hlk hl hy hnx hlo hhi t1 t2 llo lhi la ld
          go_wp2_with fail
          go_quiet (fail)
          go_wp2_with (first
            | (go_at_call 61; refine (rot_at p 7 _ lp (by decide) (by decide) (-7) rfl).mono ?_; rintro e w' ⟨rfl, rfl⟩)
            | (go_at_call 61; refine (rot_at p 18 _ lp (by decide) (by decide) (-18) rfl).mono ?_; rintro e w' ⟨rfl, rfl⟩)
            | (go_at_call 61; refine (rot_at q 17 _ lq (by decide) (by decide) (-17) rfl).mono ?_; rintro e w' ⟨rfl, rfl⟩)
            | (go_at_call 61; refine (rot_at q 19 _ lq (by decide) (by decide) (-19) rfl).mono ?_; rintro e w' ⟨rfl, rfl⟩))
          have hw' : ∃ w' : World, w' = wr.drewN nq := ⟨_, rfl⟩
          obtain ⟨wn, hwn⟩ := hw'
          have c16n : wn.cell? ⟨w.heap.size + 1, i16, none⟩ = some (.int .u32 (a : Int)) := by rw [hwn]; exact c16
          have c7n : wn.cell? ⟨w.heap.size + 1, i7, none⟩ = some (.int .u32 (d : Int)) := by rw [hwn]; exact c7
          have hd1n : wn.cell? ⟨w.heap.size + 1, k, none⟩ = some (.int .u32 ((l.getD k 0 : Nat) : Int)) := by rw [hwn]; exact hd1
          have hd2n : wn.frozen? ⟨w.heap.size + 1, k, none⟩ = false := by rw [hwn]; exact hd2
          have HAn : Hid (Ar wn (w.heap.size + 1) .u32 89 l) := by rw [hwn]; exact HA
          have HAn' : Hid (Ar wn w.heap.size .u32 89 z0) := by rw [hwn]; exact HA'
          have HBn : Hid (Below w.heap.size w wn) := by rw [hwn]; exact Lib.hid (Below.dn HB.out nq)
          rw [← hwn]
          clear hwn c16 c7 hd1 hd2 HA HA' HB c15 c2
          go_still_tail 15, (by kernel_rfl)
          change wpList _ _ _ _ _ wn.drew
          go_wp2
          go_roundw
          case rel =>
            have hset := (HAn.out.drew).set k y
            refine ⟨k + 1, l.set k y, by omega, by omega, by go_num, by rw [List.length_set]; exact HL.out, fun j hj => ?_, hset, (HAn'.out.drew).other _ _ (by simp), HBn.out.drew.setCell (by simp) _⟩
            rw [set_getD, HL.out]
            by_cases e : j = k
            · subst e; rw [if_pos ⟨rfl, by omega⟩, HY.out]
            · rw [if_neg (fun h => e h.1)]; exact HK.out j (by omega)
          case measure => simp [intOf]; omega
        · have hS' : l = S := ext_getD hl HS.out.len (by rw [show (64 : Nat) = k by omega]; exact hlk)
          subst hS'
          clear hlk
          go_wp2_with (first
            | (refine wpList_load_ar rfl 89 _ rfl (w.heap.size + 1) rfl .u32 l hA 64 24 y89 (by rw [hl]; exact s89) ?_)
            | (refine wpList_store_ar rfl 89 _ _ rfl rfl w.heap.size rfl .u32 z0 l rfl hA' (by rw [hz0]; exact s89) (by omega) ?_))
          exact bodyPost_ret (results_ar rfl _ _ w.heap.size .u32 l rfl (Ar.row hA' l) 64 24 y89 (by rw [hl]; exact s89)) rfl ⟨rfl, below_setRow hB (Nat.le_refl _) _⟩
end Go.Proofs.Ytinndlofnpkfhaa
