/-
  The walk of sum.schedule. The walk of sum.mix. The walk of sum.Digest. Plain law: a digest's length; frames as lists of bytes. Frames in plain Lean: a frame's head is right, it is scanned as its record.
-/
import Derived.Laws.CopyOwn
import Derived.StillTailTactics
import Derived.BigQuiet
import Derived.Deep.QuietTactic
import Derived.Test.YtlhaempecidohaaGreatDoorJad
import Derived.Test.YtlhaempecidohaaGreatDoorJai
import Derived.Test.YtlhaempecidohaaGreatDoorJaa
set_option linter.unusedSimpArgs false
set_option linter.unusedVariables false
namespace Go.Proofs.YtlhaempecidohaaGreatDoor
open Go.RowKit
/-- What a schedule S of a block b is. -/
structure IsSched (b S : List Nat) : Prop where
  len : S.length = 64
  lt : ∀ j, S.getD j 0 < 4294967296
  first : ∀ j, j < 16 → S.getD j 0 = Sha.be b j
  next : ∀ j, 16 ≤ j → j < 64 → S.getD j 0 = (S.getD (j - 16) 0 + Sha.low (S.getD (j - 15) 0) + S.getD (j - 7) 0 + Sha.high (S.getD (j - 2) 0)) % 4294967296
/-- Two arrays that were just laid. -/
theorem lay1 (w : World) (k : IntKind) (T : TypeId) (n : Nat) : ∃ w1 l, w1 = w.alloc (.cells (mk k (List.replicate n 0)) T) ∧ l.length = n ∧ w1.heap.size = w.heap.size + 1 ∧ Below w.heap.size w w1 ∧ Ar w1 w.heap.size k T l :=
  ⟨_, _, rfl, List.length_replicate, by simp, (Below.refl _ _).alloc (Nat.le_refl _) _, Ar.new _ _ _ _⟩
attribute [local irreducible] Calls in
set_option maxRecDepth 8000 in
set_option maxHeartbeats 1000000 in
theorem sched_any (A : Option Addr) (n c : Nat) (b S : List Nat) (w : World) (hb : RB w A n b) (hn : 64 ≤ n) (hS : IsSched b S) :
    Calls Tryz.prog 193 #[.slice A n c] w fun e w' => e = .returned (.agg (mk .u32 S)) ∧ Below w.heap.size w w' := by
  have HS := Lib.hid hS
  clear hS
  go_enter Tryz.func193, Tryz.ntmps193
  obtain ⟨w0, z0, hw0, hz0, hs0, hB0, hA0⟩ := lay1 w .u32 282 64
  obtain ⟨w1, z1, hw1, hz1, hs1, hB1, hA1⟩ := lay1 w0 .u32 282 64
  have HW0 := Lib.hid hw0
  have HW1 := Lib.hid hw1
  have hA01 : Ar w1 w.heap.size .u32 282 z0 := hA0.below hB1
  rw [hs0] at hs1 hA1
  have HBB := Lib.hid (hB0.trans (hB1.mono hB0.size))
  clear hw0 hw1 hB0 hB1 hA0
  go_wp2_with (first
    | (refine wpList_alloc_ar rfl 282 rfl .u32 64 z282 ?_; first | rw [← HW0.out] | rw [← HW1.out]))
  clear HW0 HW1
  go_loopw [10] (fun i wr => ∃ (k : Nat) (l : List Nat), k ≤ 16 ∧ i = .int .i64 k ∧ l.length = 64 ∧ (∀ j, j < k → l.getD j 0 = S.getD j 0) ∧ Ar wr (w.heap.size + 1) .u32 282 l ∧ Ar wr w.heap.size .u32 282 z0 ∧ Below w.heap.size w wr) (fun i _ => 16 - (intOf i).toNat)
  case atStart => exact ⟨0, _, Nat.zero_le _, rfl, hz1, fun j hj => absurd hj (by omega), hA1, hA01, HBB.out⟩
  case round =>
    obtain ⟨k, l, hk, rfl, hl, hlk, hA, hA', hB⟩ := hrel
    by_cases hlt : k < 16
    · obtain ⟨ad, x0, rfl, hx0, hl0, hc0⟩ := (hb.below hB).at_ (k := 4 * k) (by omega)
      obtain ⟨_, x1, e1, hx1, hl1, hc1⟩ := (hb.below hB).at_ (k := 4 * k + 1) (by omega)
      obtain rfl := Option.some.inj e1
      obtain ⟨_, x2, e2, hx2, hl2, hc2⟩ := (hb.below hB).at_ (k := 4 * k + 2) (by omega)
      obtain rfl := Option.some.inj e2
      obtain ⟨_, x3, e3, hx3, hl3, hc3⟩ := (hb.below hB).at_ (k := 4 * k + 3) (by omega)
      obtain rfl := Option.some.inj e3
      have hd1 := hA.cellD (i := k) (by omega)
      have hd2 := hA.frozen k
      have hbe : S.getD k 0 = ((x0 * 16777216 ||| x1 * 65536) ||| x2 * 256) ||| x3 := by
        rw [HS.out.first k hlt, Sha.be_or hx0 hx1 hx2 hx3 hl1 hl2 hl3]
      obtain ⟨y, hy⟩ : ∃ y, y = S.getD k 0 := ⟨_, rfl⟩
      rw [← hy] at hbe
      obtain ⟨i0, m0⟩ : IntKind.i64.wrap (4 * (k : Int)) = ((4 * k : Nat) : Int) ∧ 4 * k < n := ⟨by rw [IntKind.wrap_i64]; omega, by omega⟩
      obtain ⟨i1, m1⟩ : IntKind.i64.wrap (((4 * k : Nat) : Int) + 1) = ((4 * k + 1 : Nat) : Int) ∧ 4 * k + 1 < n := ⟨by rw [IntKind.wrap_i64]; omega, by omega⟩
      obtain ⟨i2, m2⟩ : IntKind.i64.wrap (((4 * k : Nat) : Int) + 2) = ((4 * k + 2 : Nat) : Int) ∧ 4 * k + 2 < n := ⟨by rw [IntKind.wrap_i64]; omega, by omega⟩
      obtain ⟨i3, m3⟩ : IntKind.i64.wrap (((4 * k : Nat) : Int) + 3) = ((4 * k + 3 : Nat) : Int) ∧ 4 * k + 3 < n := ⟨by rw [IntKind.wrap_i64]; omega, by omega⟩
      have v0 : IntKind.u32.wrap (x0 : Int) = x0 := by rw [IntKind.wrap_u32]; omega
      have v1 : IntKind.u32.wrap (x1 : Int) = x1 := by rw [IntKind.wrap_u32]; omega
      have v2 : IntKind.u32.wrap (x2 : Int) = x2 := by rw [IntKind.wrap_u32]; omega
      have v3 : IntKind.u32.wrap (x3 : Int) = x3 := by rw [IntKind.wrap_u32]; omega
      obtain ⟨a0, ha0⟩ : ∃ a, a = x0 * 16777216 := ⟨_, rfl⟩
      obtain ⟨a1, ha1⟩ : ∃ a, a = x1 * 65536 := ⟨_, rfl⟩
      obtain ⟨a2, ha2⟩ : ∃ a, a = x2 * 256 := ⟨_, rfl⟩
      rw [← ha0, ← ha1, ← ha2] at hbe
      have u0 : IntKind.u32.wrap ((x0 : Int) * 16777216) = (a0 : Int) := by rw [IntKind.wrap_u32]; omega
      have u1 : IntKind.u32.wrap ((x1 : Int) * 65536) = (a1 : Int) := by rw [IntKind.wrap_u32]; omega
      have u2 : IntKind.u32.wrap ((x2 : Int) * 256) = (a2 : Int) := by rw [IntKind.wrap_u32]; omega
      have k0 : a0 < 2 ^ 32 := by omega
      have k1 : a1 < 2 ^ 32 := by omega
      have k2 : a2 < 2 ^ 32 := by omega
      have b1 := u32_or_nat a0 a1 k0 k1
      have b2 := u32_or_nat (a0 ||| a1) a2 (Nat.or_lt_two_pow k0 k1) k2
      have b3 := u32_or_nat ((a0 ||| a1) ||| a2) x3 (Nat.or_lt_two_pow (Nat.or_lt_two_pow k0 k1) k2) (by omega)
      rw [← hbe] at b3
      generalize (a0 ||| a1) ||| a2 = c2 at b2 b3
      generalize a0 ||| a1 = c1 at b1 b2
      generalize 4 * k = q0 at *
      generalize q0 + 1 = q1 at *
      generalize q0 + 2 = q2 at *
      generalize q0 + 3 = q3 at *
      have HB := Lib.hid hB
      have HA := Lib.hid hA
      have HA' := Lib.hid hA'
      have HK := Lib.hid hlk
      have HL := Lib.hid hl
      have HY := Lib.hid hy
      have HB0 := Lib.hid hb
      clear e1 e2 e3 hA1 hA01 hB hA hA' hlk hl hx0 hx1 hx2 hx3 hs0 hs1 HBB hb hy hbe ha0 ha1 ha2 k0 k1 k2 hl0 hl1 hl2 hl3
      have hk64 : (k : Int) < 64 := by omega
      go_wp2_with fail
      go_still_tail 35, (by kernel_rfl)
      change wpList _ _ _ _ _ wr.drew
      go_wp2
      go_roundw
      case rel =>
        have hset := (HA.out.drew).set k y
        refine ⟨k + 1, l.set k y, by omega, by go_num, by rw [List.length_set]; exact HL.out, fun j hj => ?_, hset, (HA'.out.drew).other _ _ (by simp), HB.out.drew.setCell (by simp) _⟩
        rw [set_getD, HL.out]
        by_cases e : j = k
        · subst e; rw [if_pos ⟨rfl, by omega⟩, HY.out]
        · rw [if_neg (fun h => e h.1)]; exact HK.out j (by omega)
      case measure => simp [intOf]; omega
    · have HK0 : Hid (∀ j, j < 16 → l.getD j 0 = S.getD j 0) := fun j hj => hlk j (by omega)
      have HL0 := Lib.hid hl
      clear hA1 hA01 hs0 hs1 HBB hlk hl hb
      go_wp2
      clear hlt hk
      go_loopw [5] (fun i wr => ∃ (k : Nat) (l : List Nat), 16 ≤ k ∧ k ≤ 64 ∧ i = .int .i64 k ∧ l.length = 64 ∧ (∀ j, j < k → l.getD j 0 = S.getD j 0) ∧ Ar wr (w.heap.size + 1) .u32 282 l ∧ Ar wr w.heap.size .u32 282 z0 ∧ Below w.heap.size w wr) (fun i _ => 64 - (intOf i).toNat)
      case atStart => exact ⟨16, l, Nat.le_refl _, by decide, rfl, HL0.out, HK0.out, hA, hA', hB⟩
      case round =>
        clear hA hA' hB HK0 HL0
        obtain ⟨k, l, hk16, hk, rfl, hl, hlk, hA, hA', hB⟩ := hrel
        by_cases hlt : k < 64
        · have c15 := hA.cellD (i := k - 15) (by omega)
          have c2 := hA.cellD (i := k - 2) (by omega)
          have c16 := hA.cellD (i := k - 16) (by omega)
          have c7 := hA.cellD (i := k - 7) (by omega)
          have hd1 := hA.cellD (i := k) (by omega)
          have hd2 := hA.frozen k
          rw [hlk _ (by omega)] at c15 c2 c16 c7
          have hnx := HS.out.next k hk16 hlt
          have lp := HS.out.lt (k - 15)
          have lq := HS.out.lt (k - 2)
          have la := HS.out.lt (k - 16)
          have ld := HS.out.lt (k - 7)
          obtain ⟨y, hy⟩ : ∃ y, y = S.getD k 0 := ⟨_, rfl⟩
          rw [← hy] at hnx
          generalize S.getD (k - 15) 0 = p at *
          generalize S.getD (k - 2) 0 = q at *
          generalize S.getD (k - 16) 0 = a at *
          generalize S.getD (k - 7) 0 = d at *
          have llo := Sha.low_lt lp
          have lhi := Sha.high_lt lq
          obtain ⟨lo, hlo⟩ : ∃ x, x = Sha.low p := ⟨_, rfl⟩
          obtain ⟨hi, hhi⟩ : ∃ x, x = Sha.high q := ⟨_, rfl⟩
          rw [← hlo] at llo hnx
          rw [← hhi] at lhi hnx
          obtain ⟨m1, x1, x2⟩ := xor3 (Sha.ror p 7) (Sha.ror p 18) (p / 8) lo (Sha.ror_lt lp) (Sha.ror_lt lp) (Sha.div_lt' lp) ((p : Int) / 8) (by omega) hlo
          obtain ⟨m2, x3, x4⟩ := xor3 (Sha.ror q 17) (Sha.ror q 19) (q / 1024) hi (Sha.ror_lt lq) (Sha.ror_lt lq) (Sha.div_lt' lq) ((q : Int) / 1024) (by omega) hhi
          obtain ⟨s1, t1⟩ : ∃ s : Nat, s = (a + lo) % 4294967296 := ⟨_, rfl⟩
          obtain ⟨s2, t2⟩ : ∃ s : Nat, s = (s1 + d) % 4294967296 := ⟨_, rfl⟩
          have t1' : IntKind.u32.wrap ((a : Int) + (lo : Int)) = (s1 : Int) := by rw [IntKind.wrap_u32]; omega
          have t2' : IntKind.u32.wrap ((s1 : Int) + (d : Int)) = (s2 : Int) := by rw [IntKind.wrap_u32]; omega
          have t3' : IntKind.u32.wrap ((s2 : Int) + (hi : Int)) = (y : Int) := by rw [IntKind.wrap_u32]; omega
          have j15 : IntKind.i64.wrap ((k : Int) - 15) = ((k - 15 : Nat) : Int) := by rw [IntKind.wrap_i64]; omega
          have j2 : IntKind.i64.wrap ((k : Int) - 2) = ((k - 2 : Nat) : Int) := by rw [IntKind.wrap_i64]; omega
          have j16 : IntKind.i64.wrap ((k : Int) - 16) = ((k - 16 : Nat) : Int) := by rw [IntKind.wrap_i64]; omega
          have j7 : IntKind.i64.wrap ((k : Int) - 7) = ((k - 7 : Nat) : Int) := by rw [IntKind.wrap_i64]; omega
          have r15 : ((k - 15 : Nat) : Int) < 64 := by omega
          have r2 : ((k - 2 : Nat) : Int) < 64 := by omega
          have r16 : ((k - 16 : Nat) : Int) < 64 := by omega
          have r7 : ((k - 7 : Nat) : Int) < 64 := by omega
          have hk64 : (k : Int) < 64 := by omega
          generalize k - 15 = i15 at *
          generalize k - 2 = i2 at *
          generalize k - 16 = i16 at *
          generalize k - 7 = i7 at *
          have HB := Lib.hid hB
          have HA := Lib.hid hA
          have HA' := Lib.hid hA'
          have HK := Lib.hid hlk
          have HL := Lib.hid hl
          have HY := Lib.hid hy
          clear hB hA hA' hlk hl hy hnx hlo hhi t1 t2 llo lhi la ld
          go_wp2_with fail
          go_quiet (fail)
          go_wp2_with (first
            | (go_at_call 195; refine (rot_at p 7 _ lp (by decide) (by decide) (-7) rfl).mono ?_; rintro e w' ⟨rfl, rfl⟩)
            | (go_at_call 195; refine (rot_at p 18 _ lp (by decide) (by decide) (-18) rfl).mono ?_; rintro e w' ⟨rfl, rfl⟩)
            | (go_at_call 195; refine (rot_at q 17 _ lq (by decide) (by decide) (-17) rfl).mono ?_; rintro e w' ⟨rfl, rfl⟩)
            | (go_at_call 195; refine (rot_at q 19 _ lq (by decide) (by decide) (-19) rfl).mono ?_; rintro e w' ⟨rfl, rfl⟩))
          have hw' : ∃ w' : World, w' = wr.drewN nq := ⟨_, rfl⟩
          obtain ⟨wn, hwn⟩ := hw'
          have c16n : wn.cell? ⟨w.heap.size + 1, i16, none⟩ = some (.int .u32 (a : Int)) := by rw [hwn]; exact c16
          have c7n : wn.cell? ⟨w.heap.size + 1, i7, none⟩ = some (.int .u32 (d : Int)) := by rw [hwn]; exact c7
          have hd1n : wn.cell? ⟨w.heap.size + 1, k, none⟩ = some (.int .u32 ((l.getD k 0 : Nat) : Int)) := by rw [hwn]; exact hd1
          have hd2n : wn.frozen? ⟨w.heap.size + 1, k, none⟩ = false := by rw [hwn]; exact hd2
          have HAn : Hid (Ar wn (w.heap.size + 1) .u32 282 l) := by rw [hwn]; exact HA
          have HAn' : Hid (Ar wn w.heap.size .u32 282 z0) := by rw [hwn]; exact HA'
          have HBn : Hid (Below w.heap.size w wn) := by rw [hwn]; exact Lib.hid (Below.dn HB.out nq)
          rw [← hwn]
          clear hwn c16 c7 hd1 hd2 HA HA' HB c15 c2
          go_still_tail 15, (by kernel_rfl)
          change wpList _ _ _ _ _ wn.drew
          go_wp2
          go_roundw
          case rel =>
            have hset := (HAn.out.drew).set k y
            refine ⟨k + 1, l.set k y, by omega, by omega, by go_num, by rw [List.length_set]; exact HL.out, fun j hj => ?_, hset, (HAn'.out.drew).other _ _ (by simp), HBn.out.drew.setCell (by simp) _⟩
            rw [set_getD, HL.out]
            by_cases e : j = k
            · subst e; rw [if_pos ⟨rfl, by omega⟩, HY.out]
            · rw [if_neg (fun h => e h.1)]; exact HK.out j (by omega)
          case measure => simp [intOf]; omega
        · have hS' : l = S := ext_getD hl HS.out.len (by rw [show (64 : Nat) = k by omega]; exact hlk)
          subst hS'
          clear hlk
          go_wp2_with (first
            | (refine wpList_load_ar rfl 282 _ rfl (w.heap.size + 1) rfl .u32 l hA 64 35 y282 (by rw [hl]; exact s282) ?_)
            | (refine wpList_store_ar rfl 282 _ _ rfl rfl w.heap.size rfl .u32 z0 l rfl hA' (by rw [hz0]; exact s282) (by omega) ?_))
          exact bodyPost_ret (results_ar rfl _ _ w.heap.size .u32 l rfl (Ar.row hA' l) 64 35 y282 (by rw [hl]; exact s282)) rfl ⟨rfl, below_setRow hB (Nat.le_refl _) _⟩
end Go.Proofs.YtlhaempecidohaaGreatDoor
namespace Go.Proofs.YtlhaempecidohaaGreatDoor
open Go.RowKit
theorem built220 (x0 x1 x2 x3 x4 x5 x6 x7 : Int) : Tryz.prog.built 220 [(0, .int .u32 x0), (1, .int .u32 x1), (2, .int .u32 x2), (3, .int .u32 x3), (4, .int .u32 x4), (5, .int .u32 x5), (6, .int .u32 x6), (7, .int .u32 x7)]
    = some #[.int .u32 x0, .int .u32 x1, .int .u32 x2, .int .u32 x3, .int .u32 x4, .int .u32 x5, .int .u32 x6, .int .u32 x7] := by kernel_rfl
theorem K_len : Sha.K.length = 64 := rfl
theorem K_lt (j : Nat) : Sha.K.getD j 0 < 4294967296 := by
  by_cases h : j < 64
  · exact (by decide +kernel : ∀ j : Nat, j < 64 → Sha.K.getD j 0 < 4294967296) j h
  · rw [List.getD_eq_getElem?_getD, List.getElem?_eq_none (by rw [K_len]; omega)]; decide
attribute [local irreducible] Calls in
set_option maxRecDepth 8000 in
set_option maxHeartbeats 1000000 in
theorem mix_any (A : Option Addr) (n c : Nat) (b S : List Nat) (w : World) (hb : RB w A n b) (hn : 64 ≤ n) (hS : IsSched b S) (st : Sha.St) (hst : ∀ k, (Sha.rounds S st k).ok) :
    Calls Tryz.prog 136 #[.agg (mk .u32 st.list), .slice A n c] w fun e w' => e = .returned (.agg (mk .u32 ((Sha.rounds S st 64).add st).list)) ∧ Below w.heap.size w w' := by
  have HS := Lib.hid hS
  have HST := Lib.hid hst
  clear hS hst
  go_enter Tryz.func136, Tryz.ntmps136
  obtain ⟨l0, hl0⟩ : ∃ l, l = st.list := ⟨_, rfl⟩
  have hl0l : l0.length = 8 := by rw [hl0]; rfl
  have HL0 := Lib.hid hl0
  rw [← hl0]
  clear hl0
  obtain ⟨w0, hw0, hs0, hB0, hA0⟩ := lay w .u32 220 l0
  obtain ⟨z1, hz1⟩ : ∃ z, z = List.replicate 8 0 := ⟨_, rfl⟩
  have hz1l : z1.length = 8 := by rw [hz1]; simp
  have HZ1 := Lib.hid hz1
  clear hz1
  obtain ⟨w1, hw1, hs1, hB1, hA1⟩ := lay w0 .u32 220 z1
  have HW0 := Lib.hid hw0
  have HW1 := Lib.hid hw1
  have hA01 := hA0.below hB1
  have hBB := hB0.trans (hB1.mono hB0.size)
  rw [hs0] at hs1 hA1
  clear hw0 hw1
  go_wp2_with (first
    | (refine wpList_box_ar rfl 220 _ rfl .u32 l0 rfl ?_; rw [← HW0.out])
    | (refine wpList_alloc_ar rfl 220 rfl .u32 8 z220 ?_; rw [← HZ1.out, ← HW1.out]))
  refine (sched_any A n c b S w1 (hb.below hBB) hn HS.out).mono ?_
  rintro e w2 ⟨rfl, hB2⟩
  go_wp2_with fail
  refine (steps_any w2).mono ?_
  rintro e w3 ⟨rfl, hB3⟩
  obtain ⟨z, hz⟩ : ∃ z, z = List.replicate 64 0 := ⟨_, rfl⟩
  have hzl : z.length = 64 := by rw [hz]; simp
  have HZ := Lib.hid hz
  clear hz
  obtain ⟨K, hK⟩ : ∃ K, K = Sha.K := ⟨_, rfl⟩
  have hKl : K.length = 64 := by rw [hK]; rfl
  have HK := Lib.hid hK
  rw [← hK]
  clear hK
  obtain ⟨w4, hw4, hs4, hB4, hA4⟩ := lay w3 .u32 282 z
  obtain ⟨w5, hw5, hs5, hB5, hA5⟩ := lay w4 .u32 282 z
  obtain ⟨w6, hw6, hs6, hB6, hA6, ho6⟩ := putrow S (hA4.below hB5)
  obtain ⟨w7, hw7, hs7, hB7, hA7, ho7⟩ := putrow K (hA5.only ho6 (by omega))
  obtain ⟨w8, hw8, hs8, hB8, hA8⟩ := lay w7 .u32 220 z1
  obtain ⟨w9, hw9, hs9, hB9, hA9, ho9⟩ := putrow l0 hA8
  have HW4 := Lib.hid hw4
  have HW5 := Lib.hid hw5
  have HW6 := Lib.hid hw6
  have HW7 := Lib.hid hw7
  have HW8 := Lib.hid hw8
  have HW9 := Lib.hid hw9
  clear hw4 hw5 hw6 hw7 hw8 hw9
  have hq := hBB.size
  have hq2 := hB2.size
  have hq3 := hB3.size
  have z3 : w1.heap.size ≤ w3.heap.size := by omega
  have B19 : Below w1.heap.size w1 w9 := (((((((hB2.trans (hB3.mono hq2)).trans (hB4.mono z3)).trans (hB5.mono (by omega))).trans (hB6.mono z3)).trans (hB7.mono (by omega))).trans (hB8.mono (by omega))).trans (hB9.mono (by omega)))
  have g0 := hA01.below B19
  have g1 := hA1.below B19
  have g4 := ((hA6.only ho7 (by omega)).below hB8).only ho9 (by omega)
  have g5 := (hA7.below hB8).only ho9 (by omega)
  have g8 := hA9
  have B09 : Below w.heap.size w w9 := hBB.trans (B19.mono hq)
  have n01 : w.heap.size + 1 < w3.heap.size := by omega
  have n45 : w3.heap.size < w4.heap.size := by omega
  have n58 : w4.heap.size < w7.heap.size := by omega
  have H01 := Lib.hid hA01
  have H2 := Lib.hid (hA4.below hB5)
  have H3 := Lib.hid (hA5.only ho6 (by omega))
  have H7 := Lib.hid ((hA01.below (hB2.trans ((((hB3.trans (hB4.mono hq3)).trans ((hB5.mono (by omega)).trans ((hB6.mono hq3).trans (hB7.mono (by omega)))))).mono hq2))))
  have H8 := Lib.hid hA8
  have HG := Lib.hid (And.intro g0 (And.intro g1 (And.intro g4 (And.intro g5 (And.intro g8 (And.intro B09 (And.intro n01 (And.intro n45 n58))))))))
  have sl0 : (Tryz.prog.info? 220).map (·.size) = some l0.length := by rw [hl0l]; exact s220
  have sz : (Tryz.prog.info? 282).map (·.size) = some z.length := by rw [hzl]; exact s282
  have sz1 : (Tryz.prog.info? 220).map (·.size) = some z1.length := by rw [hz1l]; exact s220
  have SL := Lib.hid sl0
  have SZ := Lib.hid sz
  have SZ1 := Lib.hid sz1
  have e1 : z.length = S.length := by rw [hzl, HS.out.len]
  have e2 : z.length = K.length := by rw [hzl, hKl]
  have e3 : z1.length = l0.length := by rw [hz1l, hl0l]
  have E1 := Lib.hid e1
  have E2 := Lib.hid e2
  have E3 := Lib.hid e3
  clear hB0 hB1 hA0 hA1 hA01 hBB hB2 hB3 hB4 hA4 hB5 hA5 hB6 hA6 ho6 hB7 hA7 ho7 hB8 hA8 hB9 hA9 ho9 hq hq2 hq3 z3 B19 g0 g1 g4 g5 g8 B09 n01 n45 n58 hs0 hs1 hs4 hs5 hs6 hs7 hs8 hs9 sl0 sz sz1 e1 e2 e3 hb
  go_wp2_with (first
    | (refine wpList_alloc_ar rfl 282 rfl .u32 64 z282 ?_; rw [← HZ.out]; first | rw [← HW4.out] | rw [← HW5.out])
    | (refine wpList_alloc_ar rfl 220 rfl .u32 8 z220 ?_; rw [← HZ1.out, ← HW8.out])
    | (refine wpList_store_ar rfl 282 _ _ rfl rfl w3.heap.size rfl .u32 z S rfl H2.out SZ.out E1.out ?_; rw [← HW6.out])
    | (refine wpList_store_ar rfl 282 _ _ rfl rfl w4.heap.size rfl .u32 z K rfl H3.out SZ.out E2.out ?_; rw [← HW7.out])
    | (refine wpList_load_ar rfl 220 _ rfl w.heap.size rfl .u32 l0 H7.out 8 35 y220 SL.out ?_)
    | (refine wpList_store_ar rfl 220 _ _ rfl rfl w7.heap.size rfl .u32 z1 l0 rfl H8.out SZ1.out E3.out ?_; rw [← HW9.out]))
  clear HW0 HW1 HW4 HW5 HW6 HW7 HW8 HW9 H01 H2 H3 H7 H8 SL SZ SZ1 E1 E2 E3 HZ HZ1
  obtain ⟨g0, g1, g4, g5, g8, B09, n01, n45, n58⟩ := HG.out
  clear HG
  have G0 := Lib.hid g0
  have G1 := Lib.hid g1
  have G4 := Lib.hid g4
  have G5 := Lib.hid g5
  have GB := Lib.hid B09
  have N01 := Lib.hid n01
  have N45 := Lib.hid n45
  have N58 := Lib.hid n58
  have HZL := Lib.hid hz1l
  clear g0 g1 g4 g5 B09 n01 n45 n58 hzl hz1l
  rw [HL0.out] at g8
  have g8' : Ar w9 w7.heap.size .u32 220 (Sha.rounds S st 0).list := g8
  clear g8
  go_loopw [18] (fun i wr => ∃ k : Nat, k ≤ 64 ∧ i = .int .i64 k ∧ Ar wr w7.heap.size .u32 220 (Sha.rounds S st k).list ∧ Only (fun b => b = w7.heap.size) w9 wr) (fun i _ => 64 - (intOf i).toNat)
  case atStart => exact ⟨0, by decide, rfl, g8', Only.refl _ _⟩
  case round =>
    clear g8'
    obtain ⟨k, hk, rfl, hA, hO⟩ := hrel
    have hA4 : Ar wr w3.heap.size .u32 282 S := G4.out.only hO (by have := N45.out; have := N58.out; omega)
    have hA5 : Ar wr w4.heap.size .u32 282 K := G5.out.only hO (by have := N58.out; omega)
    by_cases hlt : k < 64
    · have hok := HST.out k
      have hstep : Hid (Sha.rounds S st (k + 1) = (Sha.rounds S st k).step (Sha.K.getD k 0) (S.getD k 0)) := rfl
      have ck := hA5.cellD (i := k) (by omega)
      have cw := hA4.cellD (i := k) (by rw [HS.out.len]; omega)
      have lk : K.getD k 0 < 4294967296 := by rw [HK.out]; exact K_lt k
      have lw := HS.out.lt k
      have hkk : Hid (Sha.K.getD k 0 = K.getD k 0) := by show _ = _; rw [HK.out]
      generalize S.getD k 0 = ww at *
      obtain ⟨kk, hkk0⟩ : ∃ kk, kk = K.getD k 0 := ⟨_, rfl⟩
      rw [← hkk0] at ck lk
      have HKK : Hid (Sha.K.getD k 0 = kk) := by show _ = _; rw [hkk0]; exact hkk.out
      clear hkk hkk0
      obtain ⟨r, hr⟩ : ∃ r, r = Sha.rounds S st k := ⟨_, rfl⟩
      rw [← hr] at hok hA hstep
      rw [HKK.out] at hstep
      clear hr
      obtain ⟨a, b', c', d, e, f, g, h⟩ := r
      obtain ⟨la, lb, lc, ld, le, lf, lg, lh⟩ : a < 4294967296 ∧ b' < 4294967296 ∧ c' < 4294967296 ∧ d < 4294967296 ∧ e < 4294967296 ∧ f < 4294967296 ∧ g < 4294967296 ∧ h < 4294967296 := hok
      have HC : Hid (∀ w' : World, w'.heap = wr.heap → w'.cell? ⟨w7.heap.size, 0, none⟩ = some (.int .u32 (a : Int)) ∧ w'.cell? ⟨w7.heap.size, 1, none⟩ = some (.int .u32 (b' : Int)) ∧ w'.cell? ⟨w7.heap.size, 2, none⟩ = some (.int .u32 (c' : Int)) ∧ w'.cell? ⟨w7.heap.size, 3, none⟩ = some (.int .u32 (d : Int))
          ∧ w'.cell? ⟨w7.heap.size, 4, none⟩ = some (.int .u32 (e : Int)) ∧ w'.cell? ⟨w7.heap.size, 5, none⟩ = some (.int .u32 (f : Int)) ∧ w'.cell? ⟨w7.heap.size, 6, none⟩ = some (.int .u32 (g : Int)) ∧ w'.cell? ⟨w7.heap.size, 7, none⟩ = some (.int .u32 (h : Int))
          ∧ w'.cell? ⟨w4.heap.size, k, none⟩ = some (.int .u32 (kk : Int)) ∧ w'.cell? ⟨w3.heap.size, k, none⟩ = some (.int .u32 (ww : Int))) := fun w' hw' =>
        ⟨(hA.heap hw').cell rfl, (hA.heap hw').cell rfl, (hA.heap hw').cell rfl, (hA.heap hw').cell rfl, (hA.heap hw').cell rfl, (hA.heap hw').cell rfl, (hA.heap hw').cell rfl, (hA.heap hw').cell rfl,
          by rw [World.cell?_of_block (w := wr) (by rw [hw'])]; exact ck, by rw [World.cell?_of_block (w := wr) (by rw [hw'])]; exact cw⟩
      have HA := Lib.hid hA
      have HO := Lib.hid hO
      clear hA hO hA4 hA5 ck cw
      -- the numbers
      obtain ⟨se, hse⟩ : ∃ x, x = Sha.s1 e := ⟨_, rfl⟩
      obtain ⟨sa, hsa⟩ : ∃ x, x = Sha.s0 a := ⟨_, rfl⟩
      obtain ⟨chv, hch⟩ : ∃ x, x = Sha.ch e f g := ⟨_, rfl⟩
      obtain ⟨mj, hmj⟩ : ∃ x, x = Sha.maj a b' c' := ⟨_, rfl⟩
      obtain ⟨one, hone⟩ : ∃ x, x = Sha.St.one ⟨a, b', c', d, e, f, g, h⟩ kk ww := ⟨_, rfl⟩
      obtain ⟨two, htwo⟩ : ∃ x, x = Sha.St.two ⟨a, b', c', d, e, f, g, h⟩ := ⟨_, rfl⟩
      have hone' : one = (h + se + chv + kk + ww) % 4294967296 := by rw [hone, hse, hch]; rfl
      have htwo' : two = (sa + mj) % 4294967296 := by rw [htwo, hsa, hmj]; rfl
      obtain ⟨m1, x1, x2⟩ := xor3 (Sha.ror e 6) (Sha.ror e 11) (Sha.ror e 25) se (Sha.ror_lt le) (Sha.ror_lt le) (Sha.ror_lt le) _ rfl hse
      obtain ⟨m2, x3, x4⟩ := xor3 (Sha.ror a 2) (Sha.ror a 13) (Sha.ror a 22) sa (Sha.ror_lt la) (Sha.ror_lt la) (Sha.ror_lt la) _ rfl hsa
      have lef : e &&& f < 4294967296 := Nat.and_lt_two_pow (n := 32) _ lf
      have lng : (4294967295 - e) &&& g < 4294967296 := Nat.and_lt_two_pow (n := 32) _ lg
      have lab : a &&& b' < 4294967296 := Nat.and_lt_two_pow (n := 32) _ lb
      have lac : a &&& c' < 4294967296 := Nat.and_lt_two_pow (n := 32) _ lc
      have lbc : b' &&& c' < 4294967296 := Nat.and_lt_two_pow (n := 32) _ lc
      have y1 := u32_and_nat e f le lf
      have y2 := u32_and_nat (4294967295 - e) g (by omega) lg
      have y3 := u32_and_nat a b' la lb
      have y4 := u32_and_nat a c' la lc
      have y5 := u32_and_nat b' c' lb lc
      have y6 := u32_xor_nat (e &&& f) ((4294967295 - e) &&& g) lef lng
      obtain ⟨m3, y7, y8⟩ := xor3 (a &&& b') (a &&& c') (b' &&& c') mj lab lac lbc _ rfl hmj
      have hy6 : chv = (e &&& f) ^^^ ((4294967295 - e) &&& g) := hch
      rw [← hy6] at y6
      obtain ⟨nv, hnv⟩ : ∃ x : Nat, x = 4294967295 - e := ⟨_, rfl⟩
      rw [← hnv] at y2 y6 hy6
      generalize nv &&& g = ng at *
      generalize e &&& f = ef at *
      generalize a &&& b' = ab at *
      generalize a &&& c' = ac at *
      generalize b' &&& c' = bc at *
      obtain ⟨p1, hp1⟩ : ∃ s : Nat, s = (h + se) % 4294967296 := ⟨_, rfl⟩
      obtain ⟨p2, hp2⟩ : ∃ s : Nat, s = (p1 + chv) % 4294967296 := ⟨_, rfl⟩
      obtain ⟨p3, hp3⟩ : ∃ s : Nat, s = (p2 + kk) % 4294967296 := ⟨_, rfl⟩
      obtain ⟨na, hna⟩ : ∃ s : Nat, s = (one + two) % 4294967296 := ⟨_, rfl⟩
      obtain ⟨ne, hne⟩ : ∃ s : Nat, s = (d + one) % 4294967296 := ⟨_, rfl⟩
      have t1 : IntKind.u32.wrap ((h : Int) + (se : Int)) = (p1 : Int) := by rw [IntKind.wrap_u32]; omega
      have t2 : IntKind.u32.wrap ((p1 : Int) + (chv : Int)) = (p2 : Int) := by rw [IntKind.wrap_u32]; omega
      have t3 : IntKind.u32.wrap ((p2 : Int) + (kk : Int)) = (p3 : Int) := by rw [IntKind.wrap_u32]; omega
      have t4 : IntKind.u32.wrap ((p3 : Int) + (ww : Int)) = (one : Int) := by rw [IntKind.wrap_u32]; omega
      have t5 : IntKind.u32.wrap ((sa : Int) + (mj : Int)) = (two : Int) := by rw [IntKind.wrap_u32]; omega
      have t6 : IntKind.u32.wrap ((one : Int) + (two : Int)) = (na : Int) := by rw [IntKind.wrap_u32]; omega
      have t7 : IntKind.u32.wrap ((d : Int) + (one : Int)) = (ne : Int) := by rw [IntKind.wrap_u32]; omega
      have hlist : Hid ([na, a, b', c', ne, e, f, g] = (Sha.rounds S st (k + 1)).list) := by
        show _ = _
        rw [hstep.out, hna, hne, hone, htwo]; rfl
      have hnot : bits .xor .u32 IntKind.u32.max (e : Int) = (nv : Int) := by
        have h1 := u32_xor_nat 4294967295 e (by decide) le
        rw [Sha.flip_eq le, ← hnv] at h1
        rw [show IntKind.u32.max = ((4294967295 : Nat) : Int) by decide]; exact h1
      have hk64 : (k : Int) < 64 := by omega
      have hsg : IntKind.u32.signed = false := rfl
      clear hna hne hone htwo hone' htwo' hp1 hp2 hp3 hnv hy6 hse hsa hch hmj lef lng lab lac lbc hstep HKK lk lw
      go_wp2_with fail
      obtain ⟨c0, c1, c2, c3, c4, c5, c6, c7, c8, c9⟩ := HC.out wr rfl
      go_quiet (fail)
      clear c0 c1 c2 c3 c4 c5 c6 c7 c8 c9
      go_wp2_with fail
      obtain ⟨wa, hwa⟩ : ∃ w' : World, w' = wr.drewN nq := ⟨_, rfl⟩
      rw [← hwa]
      obtain ⟨c0, c1, c2, c3, c4, c5, c6, c7, c8, c9⟩ := HC.out wa (by rw [hwa]; rfl)
      have HWA := Lib.hid hwa
      clear hwa
      go_quiet ((first
        | (go_at_call 195; exact Calls.quiet_of_same (rotq e 6 _ le (by decide) (by decide) (-6) rfl))
        | (go_at_call 195; exact Calls.quiet_of_same (rotq e 11 _ le (by decide) (by decide) (-11) rfl))
        | (go_at_call 195; exact Calls.quiet_of_same (rotq e 25 _ le (by decide) (by decide) (-25) rfl))))
      clear c0 c1 c2 c3 c4 c5 c6 c7 c8 c9
      go_wp2_with fail
      obtain ⟨wb, hwb⟩ : ∃ w' : World, w' = wa.drewN nq := ⟨_, rfl⟩
      have hwb2 : wb.heap = wr.heap := by rw [hwb, HWA.out]; rfl
      obtain ⟨c0, c1, c2, c3, c4, c5, c6, c7, c8, c9⟩ := HC.out wb hwb2
      have HWB := Lib.hid hwb
      have HWB2 := Lib.hid hwb2
      rw [← hwb]
      clear hwb hwb2
      go_quiet ((first
        | (go_at_call 195; exact Calls.quiet_of_same (rotq a 2 _ la (by decide) (by decide) (-2) rfl))
        | (go_at_call 195; exact Calls.quiet_of_same (rotq a 13 _ la (by decide) (by decide) (-13) rfl))
        | (go_at_call 195; exact Calls.quiet_of_same (rotq a 22 _ la (by decide) (by decide) (-22) rfl))))
      obtain ⟨wc, hwc⟩ : ∃ w' : World, w' = wb.drewN nq := ⟨_, rfl⟩
      have hwc2 : wc.heap = wr.heap := by rw [hwc]; exact HWB2.out
      clear c0 c1 c2 c3 c4 c5 c6 c7 c8 c9
      obtain ⟨c0, c1, c2, c3, c4, c5, c6, c7, c8, c9⟩ := HC.out wc hwc2
      rw [← hwc]
      have hAc : Ar wc w7.heap.size .u32 220 [a, b', c', d, e, f, g, h] := HA.out.heap hwc2
      obtain ⟨wd, hwd, hsd, hBd, hAd, hOd⟩ := putrow [na, a, b', c', ne, e, f, g] hAc
      have hOc : Only (fun b => b = w7.heap.size) w9 wc := by
        rw [hwc, HWB.out, HWA.out]
        exact ((HO.out.drewN _).drewN _).drewN _
      have HOd := Lib.hid (hOc.trans hOd (fun _ _ h => h))
      have HAc := Lib.hid hAc
      have HAd := Lib.hid hAd
      have HWD := Lib.hid hwd
      clear hwc hwc2 hAc hwd hsd hBd hAd hOd hOc
      go_wp2_with (first
        | (refine Great.wpList_buildTo rfl 220 _ rfl (some 96) rfl (mk .u32 [na, a, b', c', ne, e, f, g]) (built220 _ _ _ _ _ _ _ _) ?_)
        | (refine wpList_store_ar rfl 220 _ _ rfl rfl w7.heap.size rfl .u32 [a, b', c', d, e, f, g, h] [na, a, b', c', ne, e, f, g] rfl HAc.out s220 rfl ?_; rw [← HWD.out]))
      go_roundw
      case rel => exact ⟨k + 1, by omega, by go_num, by rw [← hlist.out]; exact HAd.out, HOd.out⟩
      case measure => simp [intOf]; omega
    · have hk64 : 64 = k := by omega
      rw [← hk64] at hA
      have hR : ∀ j, j < 8 → ((Sha.rounds S st 64).add st).list.getD j 0 = ((Sha.rounds S st 64).list.getD j 0 + l0.getD j 0) % 4294967296 := fun j hj => by rw [HL0.out]; exact Sha.add_getD _ _ j hj
      have HRR := Lib.hid hR
      obtain ⟨R, hRe⟩ : ∃ R, R = ((Sha.rounds S st 64).add st).list := ⟨_, rfl⟩
      have hRl : R.length = 8 := by rw [hRe]; rfl
      have HRE := Lib.hid hRe
      rw [← hRe] at HRR
      clear hRe hR
      obtain ⟨l1, hl1⟩ : ∃ l, l = (Sha.rounds S st 64).list := ⟨_, rfl⟩
      have hl1l : l1.length = 8 := by rw [hl1]; rfl
      rw [← hl1] at HRR hA
      clear hl1 hA4 hA5 HST hk64
      have H0 := Lib.hid hA
      have H1 := Lib.hid hO
      clear hA hO
      go_wp2
      clear hlt hk
      go_loopw [98] (fun i wr => ∃ (k : Nat) (l : List Nat), k ≤ 8 ∧ i = .int .i64 k ∧ l.length = 8 ∧ (∀ j, j < k → l.getD j 0 = R.getD j 0) ∧ (∀ j, k ≤ j → l.getD j 0 = l1.getD j 0) ∧ Ar wr w7.heap.size .u32 220 l ∧ Only (fun b => b = w7.heap.size) w9 wr) (fun i _ => 8 - (intOf i).toNat)
      case atStart => exact ⟨0, l1, by decide, rfl, hl1l, fun j hj => absurd hj (by omega), fun j _ => rfl, H0.out, H1.out⟩
      case round =>
        clear H0 H1
        obtain ⟨k, l, hk, rfl, hl, hlk, hlo, hA, hO⟩ := hrel
        have hA0 : Ar wr w.heap.size .u32 220 l0 := G0.out.only hO (by have := N01.out; have := N45.out; have := N58.out; omega)
        by_cases hlt : k < 8
        · have c1 := hA.cellD (i := k) (by omega)
          have c2 := hA0.cellD (i := k) (by omega)
          have hd2 := hA.frozen k
          have hv := HRR.out k hlt
          have hlk1 := hlo k (Nat.le_refl _)
          rw [hlk1] at c1
          obtain ⟨y, hy⟩ : ∃ y, y = R.getD k 0 := ⟨_, rfl⟩
          rw [← hy] at hv
          generalize l1.getD k 0 = p at *
          generalize l0.getD k 0 = q at *
          have t1 : IntKind.u32.wrap ((p : Int) + (q : Int)) = (y : Int) := by rw [IntKind.wrap_u32]; omega
          have hk8 : (k : Int) < 8 := by omega
          have HA := Lib.hid hA
          have HO := Lib.hid hO
          have HLK := Lib.hid hlk
          have HLO := Lib.hid hlo
          have HL := Lib.hid hl
          have HY := Lib.hid hy
          clear hA hA0 hO hlk hlo hl hy hv hlk1
          go_wp2_with fail
          go_still_tail 8, (by kernel_rfl)
          change wpList _ _ _ _ _ wr.drew
          go_wp2
          go_roundw
          case rel =>
            refine ⟨k + 1, l.set k y, by omega, by go_num, by rw [List.length_set]; exact HL.out, fun j hj => ?_, fun j hj => ?_, (HA.out.drew).set k y, HO.out.drew.setCell (.inl rfl) _⟩
            · rw [set_getD, HL.out]
              by_cases e : j = k
              · subst e; rw [if_pos ⟨rfl, by omega⟩, HY.out]
              · rw [if_neg (fun h => e h.1)]; exact HLK.out j (by omega)
            · rw [set_getD, if_neg (fun h => by omega)]; exact HLO.out j (by omega)
          case measure => simp [intOf]; omega
        · have hlR : l = R := ext_getD hl hRl (by rw [show (8 : Nat) = k by omega]; exact hlk)
          subst hlR
          have hA1 : Ar wr (w.heap.size + 1) .u32 220 z1 := G1.out.only hO (by have := N01.out; have := N45.out; have := N58.out; omega)
          have hB : Below w.heap.size w wr := GB.out.trans (hO.below GB.out.size (fun i hi => by have := N01.out; have := N45.out; have := N58.out; omega))
          have sl : (Tryz.prog.info? 220).map (·.size) = some l.length := by rw [hl]; exact s220
          have HA := Lib.hid hA
          have HA1 := Lib.hid hA1
          have HB := Lib.hid hB
          have SL := Lib.hid sl
          have E1 : Hid (z1.length = l.length) := by show _ = _; rw [hl, HZL.out]
          have SZ : Hid ((Tryz.prog.info? 220).map (·.size) = some z1.length) := by show _ = _; rw [HZL.out]; exact s220
          clear hA hA0 hO hlk hlo hA1 hB sl
          go_wp2_with (first
            | (refine wpList_load_ar rfl 220 _ rfl w7.heap.size rfl .u32 l HA.out 8 35 y220 SL.out ?_)
            | (refine wpList_store_ar rfl 220 _ _ rfl rfl (w.heap.size + 1) rfl .u32 z1 l rfl HA1.out SZ.out E1.out ?_))
          exact bodyPost_ret (results_ar rfl _ _ (w.heap.size + 1) .u32 l rfl (Ar.row HA1.out l) 8 35 y220 SL.out) rfl ⟨congrArg (fun x => Ending.returned (.agg (mk .u32 x))) HRE.out, below_setRow HB.out (Nat.le_succ _) _⟩
end Go.Proofs.YtlhaempecidohaaGreatDoor
namespace Go.Proofs.YtlhaempecidohaaGreatDoor
open Go.RowKit
theorem agg220 (w : World) : (isAgg 220).run Tryz.prog w = .ok true w := by
  unfold isAgg
  rw [Sem.run_bind, run_underlying y220 w]; rfl
theorem size220 (w : World) : (sizeOf 220).run Tryz.prog w = .ok 8 w := by
  have := s220
  cases hq : Tryz.prog.info? 220 with
  | none => simp [hq] at this
  | some i => simp [hq] at this; simp [sizeOf, typeInfo, hq, this]
theorem cells_ar {w w' : World} {g : Nat} {k : IntKind} {T : TypeId} {l : List Nat} (h : Ar w g k T l) (n : Nat) (hn : l.length = n) (hw : w'.heap = w.heap) :
    (loadCellsFrom ⟨g, 0, none⟩ 0 n #[]).run Tryz.prog w' = .ok (mk k l) w' := by
  subst hn
  have h' := h.heap hw
  have := run_loadCells_list (P := Tryz.prog) w' ⟨g, 0, none⟩ (mk k l).toList (fun j v hv => by
    have hadd : (⟨g, 0, none⟩ : Addr).add j = ⟨g, j, none⟩ := by unfold Addr.add; split <;> simp_all
    rw [hadd, cell_of_row _ _ j _ T (0, 0) h']
    simpa using hv)
  simpa [loadCells, mk_size] using this
theorem slice_h (A : Option Addr) (n c k : Nat) (hk : k ≤ c) (w : World) :
    (Instr.slice 23 (.slice A n c) none (some (.int .i64 (k : Int))) none).run Tryz.prog w = .ok (.slice A k c) w := by
  obtain ⟨i, hi, -, hz1, -⟩ := info_parts Tryz.info5
  have := run_slice_h (P := Tryz.prog) (w := w) 23 A n c (by kernel_rfl) .i64 k (by omega) (by omega)
  rw [this]
  simp [sizeOf, typeInfo, hi, hz1, sliced, Program.elem]
  intro _
  cases A with
  | none => rfl
  | some a => simp [Addr.add]
theorem iv_list : Sha.iv.list = [0x6a09e667, 0xbb67ae85, 0x3c6ef372, 0xa54ff53a, 0x510e527f, 0x9b05688c, 0x1f83d9ab, 0x5be0cd19] := rfl
theorem still_load_ar {ops : Array Oper} {rest : List Oper} {o : Oper} {a : Act} {w : World} {Q : Act → Prop} (hgd : o.guard = none) (T : TypeId) (x : Operand) (ho : o.op = .load T x)
    (g : Nat) (hx : a.eval x = .pointer (some ⟨g, 0, none⟩)) (k : IntKind) (l : List Nat) (hg : Ar w g k T l)
    (n : Nat) (e : TypeId) (hu : Tryz.prog.underlying T = some (.array n e)) (hi : (Tryz.prog.info? T).map (·.size) = some l.length)
    (h : wpStill Tryz.prog ops w Q rest (a.put o.dst (.agg (mk k l)))) : wpStill Tryz.prog ops w Q (o :: rest) a := by
  have hw : Region.wanted o (yielded ops a.tmps) = true := by unfold Region.wanted; rw [hgd]
  unfold wpStill
  rw [if_pos hw]
  unfold Oper.still execOp
  have hr := run_loadVar_row (P := Tryz.prog) w g T T (mk k l) (0, 0) _ hg hu rfl (by rw [mk_size]; exact hi)
  simp only [ho, hx, Instr.loadAt, Instr.sureAddr, Sem.run_bind, Sem.run_pure, Result.andThen_ok, hr]
  exact ⟨rfl, h⟩
theorem word4_len (L : List Nat) : (L.flatMap Sha.word4).length = 4 * L.length := by
  induction L with
  | nil => rfl
  | cons x L ih => rw [List.flatMap_cons, List.length_append, ih, List.length_cons]; show 4 + _ = _; omega
theorem word4_getD (L : List Nat) (j : Nat) : (L.flatMap Sha.word4).getD j 0 = L.getD (j / 4) 0 / 256 ^ (3 - j % 4) % 256 := by
  induction L generalizing j with
  | nil => simp
  | cons x L ih =>
    rw [List.flatMap_cons]
    match j with
    | 0 => rfl
    | 1 => rfl
    | 2 => rfl
    | 3 => show x % 256 = x / 1 % 256; rw [Nat.div_one]
    | j + 4 =>
      have e1 : (j + 4) / 4 = j / 4 + 1 := by omega
      have e2 : (j + 4) % 4 = j % 4 := by omega
      rw [e1, e2]
      exact ih j
theorem isSched (b : List Nat) (hb : ∀ x ∈ b, x < 256) : IsSched b (Sha.sched b) := ⟨Sha.sched_len b, Sha.sched_lt b hb, Sha.sched_first b, Sha.sched_next b⟩
theorem mix_is (A : Option Addr) (n c : Nat) (b : List Nat) (w : World) (hb : RB w A n b) (hn : 64 ≤ n) (st : Sha.St) (hst : st.ok) :
    Calls Tryz.prog 136 #[.agg (mk .u32 st.list), .slice A n c] w fun e w' => e = .returned (.agg (mk .u32 (Sha.mix st b).list)) ∧ Below w.heap.size w w' :=
  mix_any A n c b _ w hb hn (isSched b hb.2.1) st (Sha.rounds_ok _ hst)
attribute [local irreducible] Calls in
set_option maxRecDepth 8000 in
set_option maxHeartbeats 1000000 in
theorem digest_any (A : Option Addr) (n c : Nat) (b : List Nat) (w : World) (hb : RB w A n b) (hn : n ≤ 10000000) :
    Calls Tryz.prog 76 #[.slice A n c] w fun e w' => e = .returned (.agg (mk .u8 (Sha.digest b))) ∧ Below w.heap.size w w' := by
  go_enter Tryz.func76, Tryz.ntmps76
  obtain ⟨z, hz⟩ : ∃ z, z = List.replicate 32 0 := ⟨_, rfl⟩
  obtain ⟨z8, hz8⟩ : ∃ z, z = List.replicate 8 0 := ⟨_, rfl⟩
  have hzl : z.length = 32 := by rw [hz]; simp
  have hz8l : z8.length = 8 := by rw [hz8]; simp
  have HZ := Lib.hid hz
  have HZ8 := Lib.hid hz8
  obtain ⟨iv, hiv⟩ : ∃ l, l = Sha.iv.list := ⟨_, rfl⟩
  have hivl : iv.length = 8 := by rw [hiv]; rfl
  have HIV := Lib.hid hiv
  clear hz hz8 hiv
  obtain ⟨w0, hw0, hs0, hB0, hA0⟩ := lay w .u8 138 z
  obtain ⟨w1, hw1, hs1, hB1, hA1⟩ := lay w0 .u32 220 z8
  obtain ⟨w2, hw2, hs2, hB2, hA2, hO2⟩ := putrow iv hA1
  rw [hs0] at hs1 hA1 hA2 hO2 hB2 hw2
  have HW0 := Lib.hid hw0
  have HW1 := Lib.hid hw1
  have HW2 := Lib.hid hw2
  have hA02 : Ar w2 w.heap.size .u8 138 z := (hA0.below hB1).only hO2 (by omega)
  have hB02 : Below w.heap.size w w2 := (hB0.trans (hB1.mono (by omega))).trans (hB2.mono (by omega))
  have hs2' : w2.heap.size = w.heap.size + 2 := by omega
  have hbr := hb.below hB02
  have HA1 := Lib.hid hA1
  have HS2 := Lib.hid hs2'
  have e1 : Hid (z8.length = iv.length) := by show _ = _; rw [hz8l, hivl]
  have e2 : Hid ((Tryz.prog.info? 220).map (·.size) = some z8.length) := by show _ = _; rw [hz8l]; exact s220
  clear hw0 hw1 hw2 hs1 hs2 hs2' hB0 hB1 hB2 hA0 hA1 hO2 hb
  go_wp2_with (first
    | (refine wpList_alloc_ar rfl 138 rfl .u8 32 z138 ?_; rw [← HZ.out, ← HW0.out])
    | (refine wpList_build_ar rfl 220 35 8 _ rfl .u32 Sha.iv.list y220 (by kernel_rfl) (by kernel_rfl) (by kernel_rfl) ?_; rw [← HIV.out])
    | (refine wpList_alloc_ar rfl 220 rfl .u32 8 z220 ?_; rw [← HZ8.out, ← HW1.out])
    | (refine wpList_store_ar rfl 220 (.tmp 3) (.tmp 7) rfl rfl w0.heap.size rfl .u32 z8 iv rfl (by rw [hs0]; exact HA1.out) e2.out e1.out ?_; rw [hs0, ← HW2.out]))
  clear HW0 HW1 HW2 HA1 e1 e2
  refine (padded_any A n c b w2 hbr hn).mono ?_
  rintro e w3 ⟨A', m, c', rfl, hown, hB3⟩
  have hm : m = 64 * ((b.length + 72) / 64) := by rw [← hown.1, Sha.padded_len]
  have hbl := hbr.1
  obtain ⟨N, hN⟩ : ∃ N, N = (b.length + 72) / 64 := ⟨_, rfl⟩
  rw [← hN] at hm
  have hNn : N ≤ 20000000 := by omega
  have hN2 : (Sha.padded b).length / 64 = N := by rw [Sha.padded_len, ← hN]; omega
  obtain ⟨pd, hpd⟩ : ∃ p, p = Sha.padded b := ⟨_, rfl⟩
  rw [← hpd] at hown hN2
  have hr0 := hown.read
  have hle := hown.le
  have hA3 : Ar w3 (w.heap.size + 1) .u32 220 (Sha.blocks pd 0).list := by have := hA2.below hB3; rw [HIV.out] at this; exact this
  have hA03 := hA02.below hB3
  have hB03 : Below w.heap.size w w3 := hB02.trans (hB3.mono (by have := HS2.out; omega))
  have HPD := Lib.hid hpd
  have HM := Lib.hid hm
  have HN2 := Lib.hid hN2
  clear hm hown hB3 hA2 hA02 hB02 hbr HS2 hN hN2 hpd hbl hs0 hivl hz8l
  go_wp2_with fail
  go_loopw [4] (fun v wr => ∃ (A'' : Option Addr) (r c'' i : Nat), v = .slice A'' r c'' ∧ r = 64 * (N - i) ∧ i ≤ N ∧ r ≤ c'' ∧ RB wr A'' r (pd.drop (64 * i)) ∧ Ar wr (w.heap.size + 1) .u32 220 (Sha.blocks pd i).list ∧ Ar wr w.heap.size .u8 138 z ∧ Below w.heap.size w wr) (fun v _ => lenV v)
  case atStart => exact ⟨A', m, c', 0, rfl, HM.out, Nat.zero_le _, hle, by simpa using hr0, hA3, hA03, hB03⟩
  case round =>
    clear hr0 hle hA3 hA03 hB03 HM
    obtain ⟨A'', r, c'', i, rfl, hr, hi, hle, hR, hA, hA0, hB⟩ := hrel
    by_cases hlt : i < N
    · have hr64 : 64 ≤ r := by omega
      have hpos : 0 < r := by omega
      have hst := Sha.blocks_ok pd i
      have hmix := mix_is A'' 64 c'' ((pd.drop (64 * i)).take 64)
      have sl : ∀ w', (Instr.slice 23 (.slice A'' r c'') (some (.int .i64 64)) none none).run Tryz.prog w' = .ok (.slice (cut A'' c'' 64) (r - 64) (c'' - 64)) w' := slice_l A'' r c'' 64 hr64
      have sh : ∀ w', (Instr.slice 23 (.slice A'' r c'') none (some (.int .i64 64)) none).run Tryz.prog w' = .ok (.slice A'' 64 c'') w' := slice_h A'' r c'' 64 (by omega)
      have hR64 := hR.take hr64
      have hRn := hR.drop (k := 64) (cap := c'') hr64 hle
      rw [List.drop_drop] at hRn
      have hl8 : (Sha.blocks pd i).list.length = 8 := rfl
      have HL8 : Hid ((Sha.blocks pd i).list.length = 8) := Lib.hid hl8
      obtain ⟨L, hL⟩ : ∃ L, L = (Sha.blocks pd i).list := ⟨_, rfl⟩
      rw [← hL] at hA HL8
      have HL := Lib.hid hL
      have HA := Lib.hid hA
      have HA0 := Lib.hid hA0
      have HB := Lib.hid hB
      have HR64 := Lib.hid hR64
      have HRN := Lib.hid hRn
      have HMIX := Lib.hid hmix
      have HR := Lib.hid hr
      clear hr hL hA hA0 hB hR64 hRn hR hmix hl8
      go_wp2_with fail
      refine wp_region_still_tail 3 (by kernel_rfl) (by kernel_rfl) ?_
      simp only [List.take_succ_cons, List.take_zero, List.drop_succ_cons, List.drop_zero]
      refine still_load_ar rfl 220 (.tmp 3) rfl (w.heap.size + 1) rfl .u32 L (HA.out.heap rfl) 8 35 y220 (HL8.out ▸ s220) ?_
      repeat still_step
      try refine wpStill_nil ?_
      change wpList _ _ _ _ _ wr.drew
      have hR64' : RB wr.drew A'' 64 ((pd.drop (64 * i)).take 64) := HR64.out
      have hcall := HMIX.out wr.drew hR64' (Nat.le_refl _) (Sha.blocks pd i) hst
      rw [← HL.out] at hcall
      have HC := Lib.hid hcall
      clear hcall hR64'
      go_wp2_with fail
      refine HC.out.mono ?_
      rintro e w4 ⟨rfl, hB4⟩
      obtain ⟨M, hM⟩ : ∃ M, M = (Sha.mix (Sha.blocks pd i) ((pd.drop (64 * i)).take 64)).list := ⟨_, rfl⟩
      rw [← hM]
      have hMl : L.length = M.length := by rw [HL8.out, hM]; rfl
      have HM' := Lib.hid hM
      have hA4 : Ar w4 (w.heap.size + 1) .u32 220 L := Ar.below (w := wr.drew) HA.out.drew hB4
      obtain ⟨w5, hw5, hs5, hB5, hA5, hO5⟩ := putrow M hA4
      have hA05 : Ar w5 w.heap.size .u8 138 z := (Ar.below (w := wr.drew) HA0.out.drew hB4).only hO5 (by omega)
      have hB4' : Below w.heap.size w w4 := (Below.drew HB.out).trans (hB4.mono HB.out.size)
      have hB5' : Below w.heap.size w w5 := hB4'.trans (hB5.mono (by omega))
      have hR5 : RB w5 (cut A'' c'' 64) (r - 64) (pd.drop (64 * i + 64)) := by
        have h4 := (show RB wr.drew _ _ _ from HRN.out).below hB4
        exact h4.store hA4 (fun j x hx => by rw [mk_get] at hx; cases hq : L[j]? <;> rw [hq] at hx <;> simp at hx) hO5
      have HA4 := Lib.hid hA4
      have HW5 := Lib.hid hw5
      have HA5 := Lib.hid hA5
      have HA05 := Lib.hid hA05
      have HB5 := Lib.hid hB5'
      have HR5 := Lib.hid hR5
      have e2 : Hid ((Tryz.prog.info? 220).map (·.size) = some L.length) := by show _ = _; rw [HL8.out]; exact s220
      have HML := Lib.hid hMl
      clear hM hMl hA4 hw5 hs5 hB5 hA5 hO5 hA05 hB4' hB5' hR5 hB4
      go_wp2_with (first
        | (refine wpList_store_ar rfl 220 (.tmp 3) (.tmp 18) rfl rfl (w.heap.size + 1) rfl .u32 L M rfl HA4.out e2.out HML.out ?_; rw [← HW5.out]))
      go_roundw
      case rel =>
        exact ⟨cut A'' c'' 64, r - 64, c'' - 64, i + 1, rfl, by have := HR.out; omega, hlt, by omega, HR5.out, by rw [HM'.out] at HA5; exact HA5.out, HA05.out, HB5.out⟩
      case measure => simp [lenV]; omega
    · obtain rfl : i = N := by omega
      have hr0 : r = 0 := by omega
      obtain ⟨L, hL⟩ : ∃ L, L = (Sha.blocks pd i).list := ⟨_, rfl⟩
      have hLl : L.length = 8 := by rw [hL]; rfl
      have hok := Sha.blocks_ok pd i
      rw [← hL] at hA
      have hLlt : ∀ j, L.getD j 0 < 4294967296 := by
        intro j
        rw [hL]
        obtain ⟨k0, k1, k2, k3, k4, k5, k6, k7⟩ := hok
        match j with
        | 0 => exact k0
        | 1 => exact k1
        | 2 => exact k2
        | 3 => exact k3
        | 4 => exact k4
        | 5 => exact k5
        | 6 => exact k6
        | 7 => exact k7
        | j + 8 => show (0 : Nat) < _; decide
      obtain ⟨D, hD⟩ : ∃ D, D = Sha.digest b := ⟨_, rfl⟩
      have hDL : D = L.flatMap Sha.word4 := by
        rw [hD, hL]; unfold Sha.digest; rw [← HPD.out, HN2.out]
      have HDD := Lib.hid hD
      have hDl : D.length = 32 := by rw [hDL, word4_len, hLl]
      have hDg : ∀ j, j < 32 → D.getD j 0 = L.getD (j / 4) 0 / 256 ^ (3 - j % 4) % 256 := fun j hj => by rw [hDL]; exact word4_getD L j
      have HD := Lib.hid hDg
      have HDl := Lib.hid hDl
      have HLL := Lib.hid hLl
      have HLT := Lib.hid hLlt
      have HB := Lib.hid hB
      have HA := Lib.hid hA
      have HA0 := Lib.hid hA0
      subst hr0
      clear hL hLl hok hLlt hD hDL hDl hDg hB hA hA0 hR hle hr hi hlt HPD HN2
      obtain ⟨w7, hw7, hs7, hB7, hA7⟩ := lay wr .u8 138 z
      have HW7 := Lib.hid hw7
      have HA' := Lib.hid (HA.out.below (hB7.mono (Nat.le_refl _)))
      have HA0' := Lib.hid (HA0.out.below (hB7.mono (Nat.le_refl _)))
      have HB7 := Lib.hid (HB.out.trans (hB7.mono HB.out.size))
      have HSZ := Lib.hid HB.out.size
      have HA7 := Lib.hid hA7
      obtain ⟨q, hq⟩ : ∃ q, q = wr.heap.size := ⟨_, rfl⟩
      rw [← hq] at HA7
      have HQ : Hid (w.heap.size + 2 ≤ q) := by show _ ≤ _; rw [hq]; have := HA.out.lt; omega
      have HQQ := Lib.hid hq
      clear hw7 hs7 hB7 hA7 hq HA HA0 HB
      go_wp2_with (first
        | (refine wpList_alloc_ar rfl 138 rfl .u8 32 z138 ?_; rw [← HZ.out, ← HW7.out, ← HQQ.out]))
      clear HW7 HQQ
      go_loopw [19] (fun v wl => ∃ (i : Nat) (l : List Nat), i ≤ 32 ∧ v = .int .i64 (i : Int) ∧ l.length = 32 ∧ (∀ j, j < i → l.getD j 0 = D.getD j 0) ∧ Ar wl q .u8 138 l ∧ Ar wl (w.heap.size + 1) .u32 220 L ∧ Ar wl w.heap.size .u8 138 z ∧ Below w.heap.size w wl) (fun v _ => 32 - (intOf v).toNat)
      case atStart => exact ⟨0, z, by decide, rfl, hzl, fun j hj => absurd hj (Nat.not_lt_zero _), HA7.out, HA'.out, HA0'.out, HB7.out⟩
      case round =>
        clear HA7 HA' HA0' HB7
        obtain ⟨i, l, hi, rfl, hl, hlk, hA7, hA, hA0, hB⟩ := hrel
        by_cases hlt : i < 32
        · have hi32 : (i : Int) < 32 := by omega
          have hll := HLL.out
          have hcell := hA.cellD (i := i / 4) (by omega)
          have hd1 := hA7.cellD (i := i) (by omega)
          have hd2 := hA7.frozen i
          have hxlt := HLT.out (i / 4)
          have hy := HD.out i hlt
          clear hll
          obtain ⟨p, hp⟩ : ∃ p, p = i / 4 := ⟨_, rfl⟩
          obtain ⟨m, hm⟩ : ∃ m, m = 3 - i % 4 := ⟨_, rfl⟩
          have hs : 24 - 8 * (i % 4) = 8 * m := by omega
          obtain ⟨y, hy'⟩ : ∃ y, y = D.getD i 0 := ⟨_, rfl⟩
          rw [← hp, ← hm, ← hy'] at hy
          rw [← hp] at hcell hxlt
          generalize L.getD p 0 = x at *
          have hp4 : (i : Int) / 4 = (p : Int) := by omega
          have hp8 : (p : Int) < 8 := by omega
          have hby2 : (x : Int) / 2 ^ (24 - 8 * (i % 4)) % 256 = (y : Int) := by
            have hpow : (2 : Nat) ^ (24 - 8 * (i % 4)) = 256 ^ m := by rw [hs, show (256 : Nat) = 2 ^ 8 from rfl, ← Nat.pow_mul]
            have e1 : (x : Int) / 2 ^ (24 - 8 * (i % 4)) = ((x / 2 ^ (24 - 8 * (i % 4)) : Nat) : Int) := by rw [Int.natCast_ediv, Int.natCast_pow]; rfl
            rw [e1, hy, hpow]
            generalize x / 256 ^ m = t
            omega
          have HA7 := Lib.hid hA7
          have HA := Lib.hid hA
          have HA0 := Lib.hid hA0
          have HB := Lib.hid hB
          have HL := Lib.hid hl
          have HK := Lib.hid hlk
          have HY := Lib.hid hy'
          clear hp hm hs hy hy' hA7 hA hA0 hB hl hlk hxlt
          go_wp2
          go_roundw
          case rel =>
            refine ⟨i + 1, l.set i y, hlt, by go_num, by rw [List.length_set]; exact HL.out, fun j hj => ?_, HA7.out.set i y, HA.out.other _ _ (by have := HQ.out; show w.heap.size + 1 ≠ q; omega), HA0.out.other _ _ (by have := HQ.out; show w.heap.size ≠ q; omega), HB.out.setCell (by have := HQ.out; show w.heap.size ≤ q; omega) _⟩
            rw [set_getD, HL.out]
            by_cases e : j = i
            · subst e; rw [if_pos ⟨rfl, hlt⟩, HY.out]
            · rw [if_neg (fun h => e h.1)]; exact HK.out j (by omega)
          case measure => simp [intOf]; omega
        · have hlD : l = D := ext_getD hl HDl.out (by rw [show (32 : Nat) = i by omega]; exact hlk)
          subst hlD
          clear hlk
          have hzz := hzl
          have HL := Lib.hid hl
          clear hl hzl
          go_wp2_with (first
            | (refine wpList_load_ar rfl 138 _ rfl q rfl .u8 l hA7 32 5 y138 (by rw [HL.out]; exact s138) ?_)
            | (refine wpList_store_ar rfl 138 _ _ rfl rfl w.heap.size rfl .u8 z l rfl hA0 (by rw [hzz]; exact s138) (by rw [hzz, HL.out]) ?_))
          exact bodyPost_ret (results_ar rfl _ _ w.heap.size .u8 l rfl (Ar.row hA0 l) 32 5 y138 (by rw [HL.out]; exact s138)) rfl ⟨by rw [HDD.out], below_setRow hB (Nat.le_refl _) _⟩
end Go.Proofs.YtlhaempecidohaaGreatDoor
namespace Go.Proofs.YtlhaempecidohaaGreatDoor
theorem Sha.digest_len (b : List Nat) : (Sha.digest b).length = 32 := by unfold Sha.digest; rw [word4_len]; rfl
theorem Sha.digest_lt (b : List Nat) : ∀ x ∈ Sha.digest b, x < 256 := by
  intro x hx
  obtain ⟨y, _, hy⟩ := List.mem_flatMap.1 hx
  simp [Sha.word4] at hy
  omega
/-- what stands ahead of a head's CRC -/
def frame8 (k : Nat) (p : List Nat) : List Nat := [99, 117, 98] ++ beb k 1 ++ beb p.length 4
/-- a payload's frame -/
def frameB (k : Nat) (p : List Nat) : List Nat := frame8 k p ++ beb (Crc.crc (frame8 k p)) 4 ++ Sha.digest p ++ p
theorem frame8_length (k : Nat) (p : List Nat) : (frame8 k p).length = 8 := by simp [frame8, beb_length]
theorem frame8_lt (k : Nat) (p : List Nat) : ∀ x ∈ frame8 k p, x < 256 := by
  intro x hx
  simp only [frame8, List.mem_append] at hx
  rcases hx with (hx | hx) | hx
  · simp at hx; omega
  · exact beb_lt _ _ x hx
  · exact beb_lt _ _ x hx
theorem frameB_length (k : Nat) (p : List Nat) : (frameB k p).length = p.length + 44 := by
  simp [frameB, frame8_length, beb_length, Sha.digest_len]; omega
theorem frameB_lt (k : Nat) (p : List Nat) (h : ∀ x ∈ p, x < 256) : ∀ x ∈ frameB k p, x < 256 := by
  intro x hx
  simp only [frameB, List.mem_append] at hx
  rcases hx with ((hx | hx) | hx) | hx
  · exact frame8_lt k p x hx
  · exact beb_lt _ _ x hx
  · exact Sha.digest_lt p x hx
  · exact h x hx
end Go.Proofs.YtlhaempecidohaaGreatDoor
namespace Go.Proofs.YtlhaempecidohaaGreatDoor
theorem beb_one {k : Nat} (h : k < 256) : beb k 1 = [k] := by
  have : k % 256 = k := by omega
  simp [beb, bebTo, List.range_succ, this]
theorem frame8_eq {k : Nat} (p : List Nat) (hk : k < 256) : frame8 k p = [99, 117, 98, k] ++ beb p.length 4 := by rw [frame8, beb_one hk]; rfl
theorem hd_frame {k : Nat} {p : List Nat} (rest : List Nat) (h1 : 1 ≤ k) (h2 : k ≤ 3) (hp : p.length ≤ 30000) (_hb : ∀ x ∈ p, x < 256) : hd (frameB k p ++ rest) = some (k, p.length) := by
  have e8 := frame8_length k p
  have hcrc : Crc.crc (frame8 k p) < 256 ^ 4 := Crc.crc_lt _ (frame8_lt k p)
  have q0 : frameB k p ++ rest = frame8 k p ++ (beb (Crc.crc (frame8 k p)) 4 ++ (Sha.digest p ++ (p ++ rest))) := by simp [frameB]
  have hl : 44 ≤ (frameB k p ++ rest).length := by rw [List.length_append, frameB_length]; omega
  have t8 : (frameB k p ++ rest).take 8 = frame8 k p := by rw [q0, List.take_left' e8]
  have d8 : ((frameB k p ++ rest).drop 8).take 4 = beb (Crc.crc (frame8 k p)) 4 := by rw [q0, List.drop_left' e8, List.take_left' (beb_length _ _)]
  have q1 : frameB k p ++ rest = [99, 117, 98] ++ ([k] ++ (beb p.length 4 ++ (beb (Crc.crc (frame8 k p)) 4 ++ (Sha.digest p ++ (p ++ rest))))) := by rw [q0, frame8_eq p (by omega)]; simp
  have t3 : (frameB k p ++ rest).take 3 = [99, 117, 98] := by rw [q1]; rfl
  have d3 : ((frameB k p ++ rest).drop 3).take 1 = [k] := by rw [q1]; rfl
  have d4 : ((frameB k p ++ rest).drop 4).take 4 = beb p.length 4 := by
    rw [q1]
    show (beb p.length 4 ++ _).take 4 = _
    rw [List.take_left' (beb_length _ _)]
  have n1 : num [k] = k := by simp [num]
  unfold hd
  rw [t3, d3, d4, d8, t8, n1, num_beb 4 p.length (by omega), num_beb 4 _ hcrc, if_pos ⟨hl, rfl, h1, h2, hp, rfl⟩]
theorem recAt_frame {k : Nat} {p : List Nat} (pre rest : List Nat) : recAt (pre ++ (frameB k p ++ rest)) pre.length k p.length = [(pre.length, k, p)] := by
  have e8 := frame8_length k p
  have s12 : ((pre ++ (frameB k p ++ rest)).drop (pre.length + 12)).take 32 = Sha.digest p := by
    rw [← List.drop_drop, List.drop_left]
    have q : frameB k p ++ rest = (frame8 k p ++ beb (Crc.crc (frame8 k p)) 4) ++ (Sha.digest p ++ (p ++ rest)) := by simp [frameB]
    rw [q, List.drop_left' (by rw [List.length_append, e8, beb_length]), List.take_left' (Sha.digest_len p)]
  have s44 : ((pre ++ (frameB k p ++ rest)).drop (pre.length + 44)).take p.length = p := by
    rw [← List.drop_drop, List.drop_left]
    have q : frameB k p ++ rest = (frame8 k p ++ beb (Crc.crc (frame8 k p)) 4 ++ Sha.digest p) ++ (p ++ rest) := by simp [frameB]
    rw [q, List.drop_left' (by rw [List.length_append, List.length_append, e8, beb_length, Sha.digest_len]), List.take_left' rfl]
  unfold recAt
  rw [s12, s44, if_pos rfl]
theorem scan_frame {k : Nat} {p : List Nat} (pre rest : List Nat) (h1 : 1 ≤ k) (h2 : k ≤ 3) (hp : p.length ≤ 30000) (hb : ∀ x ∈ p, x < 256) :
    scan (pre ++ (frameB k p ++ rest)) pre.length =
      ((pre.length, k, p) :: (scan (pre ++ (frameB k p ++ rest)) (pre.length + 44 + p.length)).1, (scan (pre ++ (frameB k p ++ rest)) (pre.length + 44 + p.length)).2) := by
  have hh : hd ((pre ++ (frameB k p ++ rest)).drop pre.length) = some (k, p.length) := by rw [List.drop_left]; exact hd_frame rest h1 h2 hp hb
  rw [scan_here hh, if_neg (by simp only [List.length_append, frameB_length]; omega), recAt_frame]
  rfl
theorem scan_over {b : List Nat} {i : Nat} (h : b.length ≤ i) : scan b i = ([], i) := scan_none (find_end h)
/-- bytes in which no head stands, a frame behind them -/
theorem scan_heals {k : Nat} {p : List Nat} (ahead : List Nat) (h1 : 1 ≤ k) (h2 : k ≤ 3) (hp : p.length ≤ 30000) (hb : ∀ x ∈ p, x < 256) (ha : ∀ x ∈ ahead, x ≠ 99) :
    scan (ahead ++ frameB k p) 0 = ([(ahead.length, k, p)], ahead.length + (p.length + 44)) := by
  have hf : find (ahead ++ frameB k p) 0 = find (ahead ++ frameB k p) ahead.length := by
    have := find_skip (b := ahead ++ frameB k p) (i := 0) ahead.length (fun j hj => by
      rw [Nat.zero_add]
      refine hd_none_cub (fun e => ?_)
      rw [List.drop_append_of_le_length (by omega), List.drop_eq_getElem_cons hj] at e
      have := ha _ (List.getElem_mem hj)
      simp only [List.cons_append, List.take_succ_cons, List.cons.injEq] at e
      exact this e.1)
    rwa [Nat.zero_add] at this
  have hh : hd ((ahead ++ frameB k p).drop ahead.length) = some (k, p.length) := by
    rw [List.drop_left]
    have := hd_frame (k := k) (p := p) [] h1 h2 hp hb
    rwa [List.append_nil] at this
  have hs := scan_frame (k := k) (p := p) ahead [] h1 h2 hp hb
  rw [List.append_nil] at hs
  rw [scan_same (hf.trans (find_here hh)), hs, scan_over (by rw [List.length_append, frameB_length]; omega)]
  simp; omega
/-- the same for frames: one behind the other -/
def frames : List (Nat × List Nat) → List Nat
  | [] => []
  | (k, p) :: l => frameB k p ++ frames l
def recsFrom (i : Nat) : List (Nat × List Nat) → List RecP
  | [] => []
  | (k, p) :: l => (i, k, p) :: recsFrom (i + 44 + p.length) l
def good (l : List (Nat × List Nat)) : Prop := ∀ x ∈ l, 1 ≤ x.1 ∧ x.1 ≤ 3 ∧ x.2.length ≤ 30000 ∧ ∀ y ∈ x.2, y < 256
theorem frames_append (l l' : List (Nat × List Nat)) : frames (l ++ l') = frames l ++ frames l' := by
  induction l with
  | nil => rfl
  | cons x l ih => obtain ⟨k, p⟩ := x; rw [List.cons_append, frames, frames, ih, List.append_assoc]
theorem recsFrom_append (i : Nat) (l l' : List (Nat × List Nat)) : recsFrom i (l ++ l') = recsFrom i l ++ recsFrom (i + (frames l).length) l' := by
  induction l generalizing i with
  | nil => rfl
  | cons x l ih =>
    obtain ⟨k, p⟩ := x
    rw [List.cons_append, recsFrom, recsFrom, ih, frames, List.length_append, frameB_length]
    simp only [List.cons_append]
    congr 3
    omega
/-- frames ahead of a rest are scanned as they were -/
theorem scan_frames (l : List (Nat × List Nat)) (hg : good l) (pre rest : List Nat) :
    scan (pre ++ (frames l ++ rest)) pre.length = (recsFrom pre.length l ++ (scan (pre ++ (frames l ++ rest)) (pre.length + (frames l).length)).1, (scan (pre ++ (frames l ++ rest)) (pre.length + (frames l).length)).2) := by
  induction l generalizing pre with
  | nil => simp [frames, recsFrom]
  | cons x l ih =>
    obtain ⟨k, p⟩ := x
    obtain ⟨h1, h2, h3, h4⟩ := hg _ (List.mem_cons_self)
    have ih' := ih (fun y hy => hg y (List.mem_cons_of_mem _ hy)) (pre ++ frameB k p)
    have e : pre ++ frameB k p ++ (frames l ++ rest) = pre ++ (frames ((k, p) :: l) ++ rest) := by simp [frames]
    have e2 : pre ++ (frames ((k, p) :: l) ++ rest) = pre ++ (frameB k p ++ (frames l ++ rest)) := by simp [frames]
    have e3 : (pre ++ frameB k p).length = pre.length + 44 + p.length := by rw [List.length_append, frameB_length]; omega
    rw [e, e3] at ih'
    have hs := scan_frame (k := k) (p := p) pre (frames l ++ rest) h1 h2 h3 h4
    rw [← e2] at hs
    have e4 : pre.length + (frames ((k, p) :: l)).length = pre.length + 44 + p.length + (frames l).length := by rw [frames, List.length_append, frameB_length]; omega
    rw [hs, ih', e4]
    rfl
/-- a frame that is cut off within -/
theorem scan_cut {k : Nat} {p : List Nat} (pre : List Nat) (c : Nat) (h1 : 1 ≤ k) (h2 : k ≤ 3) (hp : p.length ≤ 30000) (hb : ∀ x ∈ p, x < 256) (hc : c < p.length + 44) :
    scan (pre ++ (frameB k p).take c) pre.length = ([], pre.length) := by
  by_cases h44 : c < 44
  · refine scan_none (find_none (fun j hj => hd_none_short ?_))
    rw [List.length_drop, List.length_append, List.length_take]
    omega
  · have hh : hd ((pre ++ (frameB k p).take c).drop pre.length) = some (k, p.length) := by
      rw [List.drop_left]
      have e0 := hd_frame (k := k) (p := p) [] h1 h2 hp hb
      rw [List.append_nil] at e0
      have hl : ((frameB k p).take c).length = c := by rw [List.length_take, frameB_length]; omega
      have e1 : ((frameB k p).take c).take 3 = (frameB k p).take 3 := by rw [List.take_take, show min 3 c = 3 by omega]
      have e2 : ((frameB k p).take c).take 8 = (frameB k p).take 8 := by rw [List.take_take, show min 8 c = 8 by omega]
      have e3 : (((frameB k p).take c).drop 3).take 1 = ((frameB k p).drop 3).take 1 := by rw [List.drop_take, List.take_take, show min 1 (c - 3) = 1 by omega]
      have e4 : (((frameB k p).take c).drop 4).take 4 = ((frameB k p).drop 4).take 4 := by rw [List.drop_take, List.take_take, show min 4 (c - 4) = 4 by omega]
      have e5 : (((frameB k p).take c).drop 8).take 4 = ((frameB k p).drop 8).take 4 := by rw [List.drop_take, List.take_take, show min 4 (c - 8) = 4 by omega]
      rw [← e0]
      unfold hd
      rw [e1, e2, e3, e4, e5, hl, frameB_length]
      simp only [show 44 ≤ c by omega, show 44 ≤ p.length + 44 by omega, true_and]
    rw [scan_here hh, if_pos (by rw [List.length_append, List.length_take, frameB_length]; omega)]
theorem scan_all (l : List (Nat × List Nat)) (hg : good l) : scan (frames l) 0 = (recsFrom 0 l, (frames l).length) := by
  have := scan_frames l hg [] []
  simp only [List.nil_append, List.append_nil, List.length_nil, Nat.zero_add] at this
  rw [this, scan_over (Nat.le_refl _), List.append_nil]
theorem scan_part (l1 l2 : List (Nat × List Nat)) (k : Nat) (p : List Nat) (hg : good (l1 ++ (k, p) :: l2)) (c : Nat) (h1 : (frames l1).length ≤ c) (h2 : c < (frames l1).length + 44 + p.length) :
    scan ((frames (l1 ++ (k, p) :: l2)).take c) 0 = (recsFrom 0 l1, (frames l1).length) := by
  obtain ⟨g1, g2, g3, g4⟩ := hg (k, p) (by simp)
  have e : (frames (l1 ++ (k, p) :: l2)).take c = frames l1 ++ (frameB k p).take (c - (frames l1).length) := by
    rw [frames_append, frames, List.take_append, List.take_append, List.take_of_length_le (by omega : (frames l1).length ≤ c), show c - (frames l1).length - (frameB k p).length = 0 by rw [frameB_length]; omega]
    simp
  rw [e]
  have hs := scan_frames l1 (fun x hx => hg x (List.mem_append_left _ hx)) [] ((frameB k p).take (c - (frames l1).length))
  simp only [List.nil_append, List.length_nil, Nat.zero_add] at hs
  have hcut := scan_cut (k := k) (p := p) (frames l1) (c - (frames l1).length) g1 g2 g3 g4 (by omega)
  rw [hs, hcut, List.append_nil]
theorem recsFrom_get (l : List (Nat × List Nat)) : ∀ (i j k : Nat) (p : List Nat), l[j]? = some (k, p) → (recsFrom i l)[j]? = some (i + (frames (l.take j)).length, k, p) := by
  induction l with
  | nil => intro i j k p h; cases h
  | cons x l ih =>
    obtain ⟨k0, p0⟩ := x
    intro i j k p h
    match j with
    | 0 => cases h; rfl
    | j + 1 =>
      have := ih (i + 44 + p0.length) j k p h
      rw [List.take_succ_cons, frames, List.length_append, frameB_length]
      show (recsFrom (i + 44 + p0.length) l)[j]? = _
      rw [this]
      congr 2
      omega
theorem recsFrom_take (l : List (Nat × List Nat)) : ∀ i j : Nat, (recsFrom i l).take j = recsFrom i (l.take j) := by
  induction l with
  | nil => intro i j; simp [recsFrom]
  | cons x l ih =>
    obtain ⟨k0, p0⟩ := x
    intro i j
    match j with
    | 0 => rfl
    | j + 1 => rw [List.take_succ_cons, recsFrom, recsFrom, List.take_succ_cons, ih]
end Go.Proofs.YtlhaempecidohaaGreatDoor
