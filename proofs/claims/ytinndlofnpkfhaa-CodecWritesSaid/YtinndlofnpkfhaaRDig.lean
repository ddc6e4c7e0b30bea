/-
  The walk of the document's Digest.
-/
import Derived.Test.YtinndlofnpkfhaaDig
import Derived.Test.YtinndlofnpkfhaaWide
import Derived.Test.YtinndlofnpkfhaaRef
namespace Go.Proofs.Ytinndlofnpkfhaa
open Go.RowKit

theorem ok_getD {s : Sha.St} (hok : s.ok) (j : Nat) : s.list.getD j 0 < 4294967296 := by
  obtain ⟨k0, k1, k2, k3, k4, k5, k6, k7⟩ := hok
  match j with
  | 0 => exact k0
  | 1 => exact k1
  | 2 => exact k2
  | 3 => exact k3
  | 4 => exact k4
  | 5 => exact k5
  | 6 => exact k6
  | 7 => exact k7
  | j + 8 => show (0 : Nat) < _; decide

attribute [local irreducible] Calls in
set_option maxRecDepth 8000 in
set_option maxHeartbeats 2000000 in
theorem rdigest_any (A : Option Addr) (n c : Nat) (b : List Nat) (w : World) (hb : RB w A n b) (hn : n ≤ 100000) :
    Calls Try.prog 40 #[.slice A n c] w fun e w' => e = .returned (.agg (mk .u8 (Sha.digest b))) ∧ Below w.heap.size w w' := by
  go_enter Try.func40, Try.ntmps40
  obtain ⟨z, hz⟩ : ∃ z, z = List.replicate 32 0 := ⟨_, rfl⟩
  obtain ⟨z8, hz8⟩ : ∃ z, z = List.replicate 8 0 := ⟨_, rfl⟩
  obtain ⟨z64, hz64⟩ : ∃ z, z = List.replicate 64 0 := ⟨_, rfl⟩
  have hzl : z.length = 32 := by rw [hz]; simp
  have hz8l : z8.length = 8 := by rw [hz8]; simp
  have hz64l : z64.length = 64 := by rw [hz64]; simp
  have HZ := Lib.hid hz
  have HZ8 := Lib.hid hz8
  have HZ64 := Lib.hid hz64
  obtain ⟨iv, hiv⟩ : ∃ l, l = Sha.iv.list := ⟨_, rfl⟩
  have hivl : iv.length = 8 := by rw [hiv]; rfl
  have HIV := Lib.hid hiv
  obtain ⟨K, hK⟩ : ∃ K, K = Sha.K := ⟨_, rfl⟩
  have hKl : K.length = 64 := by rw [hK]; rfl
  have HK := Lib.hid hK
  clear hz hz8 hz64 hiv hK
  obtain ⟨w0, hw0, hs0, hB0, hA0⟩ := lay w .u8 58 z
  obtain ⟨w1, hw1, hs1, hB1, hA1⟩ := lay w0 .u64 81 z64
  obtain ⟨w2, hw2, hs2, hB2, hA2, hO2⟩ := putrow K hA1
  obtain ⟨w3, hw3, hs3, hB3, hA3⟩ := lay w2 .u64 82 z8
  obtain ⟨w4, hw4, hs4, hB4, hA4, hO4⟩ := putrow iv hA3
  have HW0 := Lib.hid hw0
  have HW1 := Lib.hid hw1
  have HW2 := Lib.hid hw2
  have HW3 := Lib.hid hw3
  have HW4 := Lib.hid hw4
  have n0 : w0.heap.size = w.heap.size + 1 := hs0
  have n2 : w2.heap.size = w.heap.size + 2 := by omega
  have n4 : w4.heap.size = w.heap.size + 3 := by omega
  have hA04 : Ar w4 w.heap.size .u8 58 z := (((hA0.below hB1).only hO2 (by omega)).below hB3).only hO4 (by omega)
  have hA24 : Ar w4 w0.heap.size .u64 81 K := (hA2.below hB3).only hO4 (by omega)
  have hB04 : Below w.heap.size w w4 := (((hB0.trans (hB1.mono (by omega))).trans (hB2.mono (by omega))).trans (hB3.mono (by omega))).trans (hB4.mono (by omega))
  have hr4 := hb.below hB04
  have HA1 := Lib.hid hA1
  have HA3 := Lib.hid hA3
  have e1 : Hid (z64.length = K.length) := by show _ = _; rw [hz64l, hKl]
  have e2 : Hid (z8.length = iv.length) := by show _ = _; rw [hz8l, hivl]
  have e3 : Hid ((Try.prog.info? 81).map (·.size) = some z64.length) := by show _ = _; rw [hz64l]; exact s81
  have e4 : Hid ((Try.prog.info? 82).map (·.size) = some z8.length) := by show _ = _; rw [hz8l]; exact s82
  have N0 := Lib.hid n0
  have N2 := Lib.hid n2
  have hq4 : w.heap.size + 3 ≤ w4.heap.size := by omega
  have N4 := Lib.hid n4
  clear hw0 hw1 hw2 hw3 hw4 hs0 hs1 hs2 hs3 hs4 hB0 hB1 hB2 hB3 hB4 hA0 hA1 hO2 hA2 hA3 hO4 n0 n2 n4 hb
  have hlen := hr4.1
  have hownc : Own (w4.alloc (.cells #[] 5)) w4.heap.size (some ⟨w4.heap.size, 0, none⟩) 0 0 [] := Own.made w4 #[] 0 (Nat.le_refl _) (by unfold maxLen; omega) rfl
  have hr5 : RB (w4.alloc (.cells #[] 5)) A n b := hr4.below ((Below.refl _ _).alloc (Nat.le_refl _) _)
  have hB5 : Below w4.heap.size w4 (w4.alloc (.cells #[] 5)) := (Below.refl _ _).alloc (Nat.le_refl _) _
  go_wp2_with (first
    | (refine wpList_alloc_ar rfl 58 rfl .u8 32 z58 ?_; rw [← HZ.out, ← HW0.out])
    | (refine wpList_build_ar rfl 81 34 64 _ rfl .u64 Sha.K y81 (by kernel_rfl) (by kernel_rfl) (by kernel_rfl) ?_; rw [← HK.out])
    | (refine wpList_build_ar rfl 82 34 8 _ rfl .u64 Sha.iv.list y82 (by kernel_rfl) (by kernel_rfl) (by kernel_rfl) ?_; rw [← HIV.out])
    | (refine wpList_alloc_ar rfl 81 rfl .u64 64 z81 ?_; rw [← HZ64.out, ← HW1.out])
    | (refine wpList_alloc_ar rfl 82 rfl .u64 8 z82 ?_; rw [← HZ8.out, ← HW3.out])
    | (refine wpList_store_ar rfl 81 _ _ rfl rfl w0.heap.size rfl .u64 z64 K rfl HA1.out e3.out e1.out ?_; rw [← HW2.out])
    | (refine wpList_store_ar rfl 82 _ _ rfl rfl w2.heap.size rfl .u64 z8 iv rfl HA3.out e4.out e2.out ?_; rw [← HW4.out])
    | (at_builtin; refine wpList_append_rb rfl (.tmp 26) (.tmp 27) rfl rfl rfl hownc hr5 (by omega) hB5.size ?_; intro A6 c6 w6 hO6 ho6 _; simp only [Nat.zero_add, List.nil_append] at hO6; rw [Nat.zero_add]; have hB6 := hB5.trans (ho6.below hB5.size (fun i hi e => by simp [blk] at e; omega)))
    | (at_builtin; refine wpList_append_rb rfl (.tmp 28) (.tmp 29) rfl rfl rfl (hO6.alloc (.cells #[.int .u8 128] 5)) (RB.new w6 #[.int .u8 128] 5 (0, 0) [128] rfl (by decide)) (by simp; omega) (by have := hB6.size; simp; omega) ?_; intro A7 c7 w7 hO7 ho7 _))
  have hB7 : Below w4.heap.size w4 w7 := below_app hB6 hB6.size hO6 ho7
  clear HW0 HW1 HW2 HW3 HW4 HA1 HA3 e1 e2 e3 e4 hownc hr5 hB5 hO6 ho6 hB6 ho7 hr4
  generalize w0.heap.size = q1 at *
  generalize w2.heap.size = q2 at *
  obtain ⟨zn, hzn⟩ : ∃ z, z = Sha.zeros n := ⟨_, rfl⟩
  have hzn1 : zn = (119 - n % 64) % 64 := hzn
  have HZN := Lib.hid hzn
  have HLEN := Lib.hid hlen
  have HA4 := Lib.hid hA4
  have HA04 := Lib.hid hA04
  have HA24 := Lib.hid hA24
  have HB04 := Lib.hid hB04
  clear hzn hlen hA4 hA04 hA24 hB04
  go_loopw [5] (fun v wr => ∃ (A' : Option Addr) (c' j : Nat), j ≤ zn ∧ v = .slice A' (n + 1 + j) c' ∧ Own wr w4.heap.size A' (n + 1 + j) c' (b ++ [128] ++ List.replicate j 0) ∧ Below w4.heap.size w4 wr) (fun v _ => n + 1 + zn - lenV v)
  case atStart => exact ⟨A7, c7, 0, Nat.zero_le _, rfl, by simpa using hO7, hB7⟩
  case round =>
    clear hO7 hB7
    obtain ⟨A', c', j, hj, rfl, hO, hB⟩ := hrel
    have hB' := hB.size
    by_cases hlt : j < zn
    · have hm : ((n + 1 + j + 8) % 64 : Nat) ≠ 0 := by omega
      have ht : decide (Int.tmod ((n : Int) + 1 + (j : Int) + 8) 64 = 0) = false := by
        rw [Int.tmod_eq_emod_of_nonneg (by omega)]; simp; omega
      have ht2 : (((n : Int) + 1 + (j : Int) + 8) % 64 != 0) = true := by simp; omega
      have hOa := hO.alloc (.cells #[.int .u8 0] 5)
      have hra := RB.new wr #[.int .u8 0] 5 (0, 0) [0] rfl (by decide)
      have HB := Lib.hid hB
      have HO := Lib.hid hO
      have HB' := Lib.hid hB'
      clear hB hO
      go_wp2_with (at_builtin; refine wpList_append_rb rfl (.tmp 36) (.tmp 37) rfl rfl rfl hOa hra (by simp; omega) (by simp; omega) ?_; intro A3 c3 w8 hO8 ho8 _)
      go_roundw
      case rel =>
        refine ⟨A3, c3, j + 1, by omega, rfl, ?_, below_app HB.out HB'.out HO.out ho8⟩
        have e : b ++ [128] ++ List.replicate (j + 1) 0 = b ++ [128] ++ List.replicate j 0 ++ [0] := by rw [List.replicate_succ', ← List.append_assoc]
        rw [e]; exact hO8
      case measure => simp [lenV]; omega
    · obtain rfl : j = zn := by omega
      have hm : ((n + 1 + j + 8) % 64 : Nat) = 0 := by omega
      have ht : decide (Int.tmod ((n : Int) + 1 + (j : Int) + 8) 64 = 0) = true := by
        rw [Int.tmod_eq_emod_of_nonneg (by omega)]; simp; omega
      have ht2 : (((n : Int) + 1 + (j : Int) + 8) % 64 != 0) = false := by simp; omega
      have w8' : IntKind.u64.wrap (n : Int) = (n : Int) := by rw [IntKind.wrap_u64]; omega
      have w8 : IntKind.u64.wrap ((n : Int) * 8) = ((8 * n : Nat) : Int) := by rw [IntKind.wrap_u64]; omega
      obtain ⟨v, hv⟩ : ∃ v, v = 8 * n := ⟨_, rfl⟩
      rw [← hv] at w8
      have hvlt : v < 18446744073709551616 := by omega
      obtain ⟨l0, hl0⟩ : ∃ l, l = b ++ [128] ++ List.replicate j 0 := ⟨_, rfl⟩
      rw [← hl0] at hO
      have HO := Lib.hid hO
      have HB := Lib.hid hB
      have HB' := Lib.hid hB'
      have HV := Lib.hid hv
      have HL0 := Lib.hid hl0
      have hjb : j < 64 := by omega
      clear hO hB hv hzn1 hj hlt hl0
      go_wp2_with fail
      refine (rbytes v 8 wr hvlt (by decide)).mono ?_
      rintro e w9 ⟨A9, c9, rfl, hO9, hB9⟩
      have hown := (HO.out.only (Only.of_below hB9 (fun _ => False)) (fun _ _ h => h))
      have hB9' : Below w4.heap.size w4 w9 := HB.out.trans (hB9.mono HB'.out)
      have hr9 := hO9.read
      clear hO9 hB9
      go_wp2_with (first | (at_builtin; refine wpList_append_rb rfl (.tmp 39) (.tmp 44) rfl rfl rfl hown hr9 (by omega) (by have := hB9'.size; omega) ?_; intro A3 c3 wp hOP hoP _))
      have hBP : Below w4.heap.size w4 wp := hB9'.trans (hoP.below hB9'.size (fun i hi e => by have := (hown.lt i e).1; omega))
      have hpadE : l0 ++ beb v 8 = Sha.padded b := by
        unfold Sha.padded
        rw [HLEN.out, ← HZN.out, ← HV.out, HL0.out]
        simp
      rw [hpadE] at hOP
      obtain ⟨m, hmm⟩ : ∃ m, m = n + 1 + j + 8 := ⟨_, rfl⟩
      rw [← hmm] at hOP
      rw [← hmm]
      obtain ⟨N, hN⟩ : ∃ N, N = (b.length + 72) / 64 := ⟨_, rfl⟩
      have hm64 : m = 64 * N := by rw [← hOP.1, Sha.padded_len, hN]
      have hN2 : (Sha.padded b).length / 64 = N := by rw [Sha.padded_len, ← hN]; omega
      have hNn : N ≤ 2000 := by omega
      obtain ⟨pd, hpd⟩ : ∃ p, p = Sha.padded b := ⟨_, rfl⟩
      rw [← hpd] at hOP hN2
      have HPD := Lib.hid hpd
      have HM64 := Lib.hid hm64
      have HN2 := Lib.hid hN2
      have PA0 := Lib.hid (HA04.out.below hBP)
      have PA1 := Lib.hid (HA24.out.below (hBP.mono (Nat.le_refl _)))
      have hA2P : Ar wp q2 .u64 82 (Sha.blocks pd 0).list := by have := HA4.out.below hBP; rw [HIV.out] at this; exact this
      have PB := Lib.hid (HB04.out.trans (hBP.mono (by omega)))
      have PR := Lib.hid hOP.read
      have PLT := Lib.hid hOP.lt
      have hmc := hOP.le
      have PSZ := Lib.hid hBP.size
      have HPDB := Lib.hid hOP.2.1
      have HPDL := Lib.hid hOP.1
      clear hBP hpadE hOP hmm hm64 hN2 hpd hoP hown hB9' hr9 HO HB HB' HV HL0 hm ht ht2 w8 w8' hvlt hjb HZN hN HLEN HA4 HA04 HA24 HB04
      go_loopw [6] (fun v wr => ∃ (a i : Nat), v = .int .i64 (a : Int) ∧ a = 64 * i ∧ i ≤ N ∧ Ar wr q2 .u64 82 (Sha.blocks pd i).list ∧ Only (fun b => b = q2) wp wr) (fun v _ => m - (intOf v).toNat)
      case atStart => exact ⟨0, 0, rfl, rfl, Nat.zero_le _, hA2P, Only.refl _ _⟩
      case round =>
        clear hA2P
        obtain ⟨a, i, rfl, ha, hi, hA, hO⟩ := hrel
        have hrq := hO.size
        have pq : q2 < wp.heap.size := by have := PSZ.out; have := N2.out; omega
        by_cases hlt : i < N
        · have ham : a + 64 ≤ m := by have := HM64.out; omega
          have hlt2 : (a : Int) < (m : Int) := by omega
          have hblen : ((pd.drop (64 * i)).take 64).length = 64 := by rw [List.length_take, List.length_drop, HPDL.out]; omega
          have hblt : ∀ x ∈ (pd.drop (64 * i)).take 64, x < 256 := fun x hx => HPDB.out x (List.mem_of_mem_drop (List.mem_of_mem_take hx))
          have hRr : RB wr A3 m pd := PR.out.only hO (fun k hk e => by have := (PLT.out k hk).1; have := N2.out; omega)
          have hAK : Ar wr q1 .u64 81 K := PA1.out.only hO (by have := N0.out; have := N2.out; omega)
          have hst := Sha.blocks_ok pd i
          have hnext : Hid (Sha.blocks pd (i + 1) = Sha.mix (Sha.blocks pd i) ((pd.drop (64 * i)).take 64)) := rfl
          obtain ⟨bk, hbk⟩ : ∃ bk, bk = (pd.drop (64 * i)).take 64 := ⟨_, rfl⟩
          rw [← hbk] at hblen hblt hnext
          have HBK : Hid (bk = (pd.drop a).take 64) := by show _ = _; rw [hbk, ha]
          have HS := Lib.hid (isSched bk hblt)
          generalize Sha.blocks pd i = st at *
          obtain ⟨w8, hw8, hs8, hB8, hA8⟩ := lay wr .u64 81 z64
          have HW8 := Lib.hid hw8
          have hRb8 := hRr.below hB8
          have hO8 : Only (fun b => b = q2) wp w8 := hO.trans (Only.of_below hB8 (fun _ => False)) (fun _ _ h => h.elim)
          have hAK8 := hAK.below hB8
          have hAH8 := hA.below hB8
          obtain ⟨g7, hg7⟩ : ∃ g, g = wr.heap.size := ⟨_, rfl⟩
          have h7a : wp.heap.size ≤ g7 := by omega
          have h7b : w8.heap.size = g7 + 1 := by omega
          rw [← hg7] at hA8
          have HG7 := Lib.hid hg7
          have H7A := Lib.hid h7a
          have H7B := Lib.hid h7b
          have HO8 := Lib.hid hO8
          have HAK8 := Lib.hid hAK8
          have HAH8 := Lib.hid hAH8
          have HRB8 := Lib.hid hRb8
          have HA8 := Lib.hid hA8
          have HBL := Lib.hid hblen
          have HBT := Lib.hid hblt
          have HST := Lib.hid hst
          have HAI := Lib.hid ha
          clear ha hbk hw8 hs8 hB8 hA8 hO hA hAK hRr hg7 h7a h7b hO8 hAK8 hAH8 hRb8 hblen hblt hst
          go_wp2_with (first
            | (refine wpList_alloc_ar rfl 81 rfl .u64 64 z81 ?_; rw [← HZ64.out, ← HW8.out, ← HG7.out]))
          clear HW8 HG7
          obtain ⟨S, hSe⟩ : ∃ S, S = Sha.sched bk := ⟨_, rfl⟩
          rw [← hSe] at HS
          have HSE := Lib.hid hSe
          clear hSe
          go_loopw [52] (fun v wl => ∃ (k : Nat) (l : List Nat), k ≤ 64 ∧ v = .int .i64 (k : Int) ∧ l.length = 64 ∧ (∀ j, j < k → l.getD j 0 = S.getD j 0) ∧ Ar wl g7 .u64 81 l ∧ Only (fun b => b = g7) w8 wl) (fun v _ => 64 - (intOf v).toNat)
          case atStart => exact ⟨0, z64, by decide, rfl, hz64l, fun j hj => absurd hj (Nat.not_lt_zero _), HA8.out, Only.refl _ _⟩
          case round =>
            obtain ⟨k, l, hk, rfl, hl, hlk, hA, hO⟩ := hrel
            have hd1 := hA.cellD (i := k)
            have hd2 := hA.frozen k
            by_cases hk64 : k < 64
            · have hk64' : (k : Int) < 64 := by omega
              have hd1 := hd1 (by omega)
              by_cases h16 : k < 16
              · have h16' : (k : Int) < 16 := by omega
                have hRl : RB wr A3 m pd := HRB8.out.only hO (fun q hq e => by have := (PLT.out q hq).2; have := H7A.out; omega)
                obtain ⟨lo, hlo⟩ : ∃ lo, lo = a + 4 * k := ⟨_, rfl⟩
                obtain ⟨hi_, hhi⟩ : ∃ h, h = lo + 4 := ⟨_, rfl⟩
                have x1 : (a : Int) + 4 * (k : Int) = (lo : Int) := by omega
                have x2 : (lo : Int) + 4 = (hi_ : Int) := by omega
                have h64k : 4 * (k : Int) < 64 := by omega
                have hlohi : lo ≤ hi_ := by omega
                have hhc : hi_ ≤ m := by omega
                have sl := slice_lh A3 m c3 lo hi_ hlohi (by omega)
                rw [show hi_ - lo = 4 by omega] at sl
                have hRm : RB wr (cut A3 c3 lo) 4 ((pd.drop lo).take 4) := by
                  have := hRl.mid (lo := lo) (hi := hi_) (cap := c3) hlohi hhc hmc
                  rwa [show hi_ - lo = 4 by omega] at this
                have hnum : num ((pd.drop lo).take 4) = S.getD k 0 := by
                  rw [HS.out.first k h16, ← num_be (by rw [HBL.out]; omega), HBK.out, List.drop_take, List.take_take, List.drop_drop, show min 4 (64 - 4 * k) = 4 by omega, hlo]
                obtain ⟨y, hy⟩ : ∃ y, y = S.getD k 0 := ⟨_, rfl⟩
                have HY := Lib.hid hy
                have HA := Lib.hid hA
                have HO := Lib.hid hO
                have HL := Lib.hid hl
                have HK := Lib.hid hlk
                have HRM := Lib.hid hRm
                have HNUM := Lib.hid hnum
                have hmm2 : m ≤ 200000 := by have := HM64.out; omega
                clear hy hA hO hl hlk hRm hnum hlo hhi hRl
                go_wp2_with fail
                refine (rnumber _ 4 _ _ _ HRM.out (by decide)).mono ?_
                rintro e w' ⟨rfl, rfl⟩
                rw [HNUM.out, ← HY.out]
                go_wp2_with fail
                go_roundw
                case rel =>
                  refine ⟨k + 1, l.set k y, by omega, by go_num, by rw [List.length_set]; exact HL.out, fun j hj => ?_, HA.out.set k y, HO.out.setCell (.inl rfl) _⟩
                  rw [set_getD, HL.out]
                  by_cases e : j = k
                  · subst e; rw [if_pos ⟨rfl, by omega⟩, HY.out]
                  · rw [if_neg (fun h => e h.1)]; exact HK.out j (by omega)
                case measure => simp [intOf]; omega
              · have h16' : ¬ (k : Int) < 16 := by omega
                have c15 := hA.cellD (i := k - 15) (by omega)
                have c2 := hA.cellD (i := k - 2) (by omega)
                have c16 := hA.cellD (i := k - 16) (by omega)
                have c7 := hA.cellD (i := k - 7) (by omega)
                rw [hlk _ (by omega)] at c15 c2 c16 c7
                have hnx := HS.out.next k (by omega) hk64
                have lp := HS.out.lt (k - 15)
                have lq := HS.out.lt (k - 2)
                have la := HS.out.lt (k - 16)
                have ld := HS.out.lt (k - 7)
                obtain ⟨y, hy⟩ : ∃ y, y = S.getD k 0 := ⟨_, rfl⟩
                rw [← hy] at hnx
                generalize S.getD (k - 15) 0 = p at *
                generalize S.getD (k - 2) 0 = q at *
                generalize S.getD (k - 16) 0 = a0 at *
                generalize S.getD (k - 7) 0 = d at *
                have llo := Sha.low_lt lp
                have lhi := Sha.high_lt lq
                obtain ⟨lo, hlo⟩ : ∃ x, x = Sha.low p := ⟨_, rfl⟩
                obtain ⟨hi_, hhi⟩ : ∃ x, x = Sha.high q := ⟨_, rfl⟩
                rw [← hlo] at llo hnx
                rw [← hhi] at lhi hnx
                obtain ⟨m1, x1, x2⟩ := xor3w (Sha.ror p 7) (Sha.ror p 18) (p / 8) lo (Sha.ror_lt lp) (Sha.ror_lt lp) (Sha.div_lt' lp) ((p : Int) / 8) (by omega) hlo
                obtain ⟨m2, x3, x4⟩ := xor3w (Sha.ror q 17) (Sha.ror q 19) (q / 1024) hi_ (Sha.ror_lt lq) (Sha.ror_lt lq) (Sha.div_lt' lq) ((q : Int) / 1024) (by omega) hhi
                obtain ⟨s1, t1⟩ : ∃ s : Nat, s = a0 + lo := ⟨_, rfl⟩
                obtain ⟨s2, t2⟩ : ∃ s : Nat, s = s1 + d := ⟨_, rfl⟩
                obtain ⟨s3, t3⟩ : ∃ s : Nat, s = s2 + hi_ := ⟨_, rfl⟩
                have t1' : IntKind.u64.wrap ((a0 : Int) + (lo : Int)) = (s1 : Int) := by rw [IntKind.wrap_u64]; omega
                have t2' : IntKind.u64.wrap ((s1 : Int) + (d : Int)) = (s2 : Int) := by rw [IntKind.wrap_u64]; omega
                have t3' : IntKind.u64.wrap ((s2 : Int) + (hi_ : Int)) = (s3 : Int) := by rw [IntKind.wrap_u64]; omega
                have t4' : bits .and .u64 (s3 : Int) 4294967295 = (y : Int) := by rw [mask s3 (by omega), hnx, t3, t2, t1]
                have j15 : IntKind.i64.wrap ((k : Int) - 15) = ((k - 15 : Nat) : Int) := by rw [IntKind.wrap_i64]; omega
                have j2 : IntKind.i64.wrap ((k : Int) - 2) = ((k - 2 : Nat) : Int) := by rw [IntKind.wrap_i64]; omega
                have j16 : IntKind.i64.wrap ((k : Int) - 16) = ((k - 16 : Nat) : Int) := by rw [IntKind.wrap_i64]; omega
                have j7 : IntKind.i64.wrap ((k : Int) - 7) = ((k - 7 : Nat) : Int) := by rw [IntKind.wrap_i64]; omega
                have r15 : ((k - 15 : Nat) : Int) < 64 := by omega
                have r2 : ((k - 2 : Nat) : Int) < 64 := by omega
                have r16 : ((k - 16 : Nat) : Int) < 64 := by omega
                have r7 : ((k - 7 : Nat) : Int) < 64 := by omega
                generalize k - 15 = i15 at *
                generalize k - 2 = i2 at *
                generalize k - 16 = i16 at *
                generalize k - 7 = i7 at *
                have HC : Hid (∀ w' : World, w'.heap = wr.heap → w'.cell? ⟨g7, i15, none⟩ = some (.int .u64 (p : Int)) ∧ w'.cell? ⟨g7, i2, none⟩ = some (.int .u64 (q : Int)) ∧ w'.cell? ⟨g7, i16, none⟩ = some (.int .u64 (a0 : Int)) ∧ w'.cell? ⟨g7, i7, none⟩ = some (.int .u64 (d : Int))
                    ∧ w'.cell? ⟨g7, k, none⟩ = some (.int .u64 ((l.getD k 0 : Nat) : Int)) ∧ w'.frozen? ⟨g7, k, none⟩ = false ∧ Ar w' g7 .u64 81 l) := fun w' hw' =>
                  ⟨by rw [World.cell?_of_block (w := wr) (by rw [hw'])]; exact c15, by rw [World.cell?_of_block (w := wr) (by rw [hw'])]; exact c2, by rw [World.cell?_of_block (w := wr) (by rw [hw'])]; exact c16, by rw [World.cell?_of_block (w := wr) (by rw [hw'])]; exact c7,
                    by rw [World.cell?_of_block (w := wr) (by rw [hw'])]; exact hd1, (hA.heap hw').frozen k, hA.heap hw'⟩
                have HO := Lib.hid hO
                have HK := Lib.hid hlk
                have HL := Lib.hid hl
                have HY := Lib.hid hy
                clear hA hO hlk hl hy hnx hlo hhi t1 t2 t3 llo lhi la ld c15 c2 c16 c7 hd1 hd2
                go_wp2_with fail
                obtain ⟨c0, c1, c2, c3', c4, c5, hAr⟩ := HC.out wr rfl
                have HAr := Lib.hid hAr
                clear hAr
                go_quiet ((first
                  | (go_at_call 55; exact Calls.quiet_of_same (turnedq p 7 _ lp (by decide) (by decide) 7 rfl))
                  | (go_at_call 55; exact Calls.quiet_of_same (turnedq p 18 _ lp (by decide) (by decide) 18 rfl))))
                go_wp2_with fail
                obtain ⟨wa, hwa⟩ : ∃ w' : World, w' = wr.drewN nq := ⟨_, rfl⟩
                rw [← hwa]
                have hwa2 : wa.heap = wr.heap := by rw [hwa]; rfl
                clear c0 c1 c2 c3' c4 c5 HAr
                obtain ⟨c0, c1, c2, c3', c4, c5, hAr⟩ := HC.out wa hwa2
                have HAr := Lib.hid hAr
                have HWA := Lib.hid hwa
                have HWA2 := Lib.hid hwa2
                clear hAr hwa hwa2
                go_quiet ((first
                  | (go_at_call 55; exact Calls.quiet_of_same (turnedq q 17 _ lq (by decide) (by decide) 17 rfl))
                  | (go_at_call 55; exact Calls.quiet_of_same (turnedq q 19 _ lq (by decide) (by decide) 19 rfl))))
                go_wp2_with fail
                obtain ⟨wb, hwb⟩ : ∃ w' : World, w' = wa.drewN nq := ⟨_, rfl⟩
                rw [← hwb]
                have hwb2 : wb.heap = wr.heap := by rw [hwb]; exact HWA2.out
                clear c0 c1 c2 c3' c4 c5 HAr
                obtain ⟨c0, c1, c2, c3', c4, c5, hAr⟩ := HC.out wb hwb2
                have hOb : Only (fun b => b = g7) w8 wb := by rw [hwb, HWA.out]; exact (HO.out.drewN _).drewN _
                have HAr := Lib.hid hAr
                have HOB := Lib.hid hOb
                clear hAr hwb hwb2 hOb HWA HWA2
                go_still_tail 16, (by kernel_rfl)
                change wpList _ _ _ _ _ wb.drew
                go_wp2
                go_roundw
                case rel =>
                  have hset := (HAr.out.drew).set k y
                  refine ⟨k + 1, l.set k y, by omega, by go_num, by rw [List.length_set]; exact HL.out, fun j hj => ?_, hset, HOB.out.drew.setCell (.inl rfl) _⟩
                  rw [set_getD, HL.out]
                  by_cases e : j = k
                  · subst e; rw [if_pos ⟨rfl, by omega⟩, HY.out]
                  · rw [if_neg (fun h => e h.1)]; exact HK.out j (by omega)
                case measure => simp [intOf]; omega
            · have hS' : l = S := ext_getD hl HS.out.len (by rw [show (64 : Nat) = k by omega]; exact hlk)
              subst hS'
              have hO9 : Only (fun b => b = q2) wp wr := HO8.out.trans hO (fun i hi e => by have := H7A.out; omega)
              have hAK9 : Ar wr q1 .u64 81 K := HAK8.out.only hO (by have := H7A.out; have := N0.out; have := N2.out; omega)
              have hAH9 : Ar wr q2 .u64 82 st.list := HAH8.out.only hO (by have := H7A.out; omega)
              obtain ⟨h0, hh0⟩ : ∃ h, h = st.list := ⟨_, rfl⟩
              have hh0l : h0.length = 8 := by rw [hh0]; rfl
              rw [← hh0] at hAH9
              obtain ⟨wA, hwA, hsA, hBA, hAA⟩ := lay wr .u64 82 z8
              obtain ⟨wB, hwB, hsB, hBB, hAB, hOB⟩ := putrow h0 hAA
              obtain ⟨g11, hg11⟩ : ∃ g, g = wr.heap.size := ⟨_, rfl⟩
              rw [← hg11] at hAA hAB hOB hwB hBB
              have h11a : g7 < g11 := by have := hA.lt; omega
              have HAA := Lib.hid hAA
              have HAH9 := Lib.hid hAH9
              have HWA := Lib.hid hwA
              have HWB := Lib.hid hwB
              have HG11 := Lib.hid hg11
              have H11A := Lib.hid h11a
              have hOwB : Only (fun b => b = q2) wp wB := (hO9.trans (Only.of_below hBA (fun _ => False)) (fun _ _ h => h.elim)).trans hOB (fun i hi e => by have := H7A.out; omega)
              have HOWB := Lib.hid hOwB
              have HAKB := Lib.hid ((hAK9.below hBA).only hOB (by have := H7A.out; have := N0.out; have := N2.out; omega))
              have HAHB := Lib.hid ((hAH9.below hBA).only hOB (by have := H7A.out; omega))
              have HA7B := Lib.hid ((hA.below hBA).only hOB (by omega))
              have HABB : Hid (Ar wB g11 .u64 82 (Sha.rounds l st 0).list) := by show Ar _ _ _ _ _; rw [show (Sha.rounds l st 0).list = st.list from rfl, ← hh0]; exact hAB
              have e1 : Hid (z8.length = h0.length) := by show _ = _; rw [hz8l, hh0l]
              have e2 : Hid ((Try.prog.info? 82).map (·.size) = some z8.length) := by show _ = _; rw [hz8l]; exact s82
              have e3 : Hid ((Try.prog.info? 82).map (·.size) = some h0.length) := by show _ = _; rw [hh0l]; exact s82
              have HH0 := Lib.hid hh0
              have HH0L := Lib.hid hh0l
              clear hO9 hAK9 hAH9 hwA hsA hBA hAA hwB hsB hBB hAB hOB hg11 h11a hOwB hA hO hd1 hd2 hlk hl HO8 HAK8 HAH8 HRB8 HA8 hh0 hh0l
              go_wp2_with (first
                | (refine wpList_load_ar rfl 82 _ rfl q2 rfl .u64 h0 HAH9.out 8 34 y82 e3.out ?_)
                | (refine wpList_alloc_ar rfl 82 rfl .u64 8 z82 ?_; rw [← HZ8.out, ← HWA.out, ← HG11.out])
                | (refine wpList_store_ar rfl 82 _ _ rfl rfl g11 rfl .u64 z8 h0 rfl HAA.out e2.out e1.out ?_; rw [← HWB.out]))
              clear HWA HG11 HAA HAH9 HWB e1 e2 e3 hk64 hk
              go_loopw [123] (fun v wl => ∃ (k : Nat), k ≤ 64 ∧ v = .int .i64 (k : Int) ∧ Ar wl g11 .u64 82 (Sha.rounds l st k).list ∧ Only (fun b => b = g11) wB wl) (fun v _ => 64 - (intOf v).toNat)
              case atStart => exact ⟨0, by decide, rfl, HABB.out, Only.refl _ _⟩
              case round =>
                clear HABB
                obtain ⟨k, hk, rfl, hA, hO⟩ := hrel
                by_cases hk64 : k < 64
                · have hk64' : (k : Int) < 64 := by omega
                  have hok := Sha.rounds_ok l HST.out k
                  have hstep : Hid (Sha.rounds l st (k + 1) = (Sha.rounds l st k).step (Sha.K.getD k 0) (l.getD k 0)) := rfl
                  have hAKl : Ar wr q1 .u64 81 K := HAKB.out.only hO (by have := H11A.out; have := H7A.out; have := N0.out; have := N2.out; omega)
                  have hA7l : Ar wr g7 .u64 81 l := HA7B.out.only hO (by have := H11A.out; omega)
                  have ck := hAKl.cellD (i := k) (by omega)
                  have cw := hA7l.cellD (i := k) (by rw [HS.out.len]; omega)
                  have lw := HS.out.lt k
                  have lk : K.getD k 0 < 4294967296 := by rw [HK.out]; exact K_lt k
                  have hkk : Hid (Sha.K.getD k 0 = K.getD k 0) := by show _ = _; rw [HK.out]
                  generalize l.getD k 0 = ww at *
                  obtain ⟨kk, hkk0⟩ : ∃ kk, kk = K.getD k 0 := ⟨_, rfl⟩
                  rw [← hkk0] at ck lk
                  have HKK : Hid (Sha.K.getD k 0 = kk) := by show _ = _; rw [hkk0]; exact hkk.out
                  clear hkk hkk0
                  obtain ⟨r, hr⟩ : ∃ r, r = Sha.rounds l st k := ⟨_, rfl⟩
                  rw [← hr] at hok hA hstep
                  rw [HKK.out] at hstep
                  clear hr
                  obtain ⟨a_, b_, c_, d, e, f, g, h⟩ := r
                  obtain ⟨la, lb, lc, ld, le, lf, lg, lh⟩ : a_ < 4294967296 ∧ b_ < 4294967296 ∧ c_ < 4294967296 ∧ d < 4294967296 ∧ e < 4294967296 ∧ f < 4294967296 ∧ g < 4294967296 ∧ h < 4294967296 := hok
                  have HC : Hid (∀ w' : World, w'.heap = wr.heap → w'.cell? ⟨g11, 0, none⟩ = some (.int .u64 (a_ : Int)) ∧ w'.cell? ⟨g11, 1, none⟩ = some (.int .u64 (b_ : Int)) ∧ w'.cell? ⟨g11, 2, none⟩ = some (.int .u64 (c_ : Int))
                      ∧ w'.cell? ⟨g11, 4, none⟩ = some (.int .u64 (e : Int)) ∧ w'.cell? ⟨g11, 5, none⟩ = some (.int .u64 (f : Int)) ∧ w'.cell? ⟨g11, 6, none⟩ = some (.int .u64 (g : Int)) ∧ w'.cell? ⟨g11, 7, none⟩ = some (.int .u64 (h : Int))
                      ∧ w'.cell? ⟨q1, k, none⟩ = some (.int .u64 (kk : Int)) ∧ w'.cell? ⟨g7, k, none⟩ = some (.int .u64 (ww : Int))) := fun w' hw' =>
                    ⟨(hA.heap hw').cell rfl, (hA.heap hw').cell rfl, (hA.heap hw').cell rfl, (hA.heap hw').cell rfl, (hA.heap hw').cell rfl, (hA.heap hw').cell rfl, (hA.heap hw').cell rfl,
                      by rw [World.cell?_of_block (w := wr) (by rw [hw'])]; exact ck, by rw [World.cell?_of_block (w := wr) (by rw [hw'])]; exact cw⟩
                  have HA := Lib.hid hA
                  have HO := Lib.hid hO
                  clear hA hO hAKl hA7l ck cw
                  obtain ⟨se, hse⟩ : ∃ x, x = Sha.s1 e := ⟨_, rfl⟩
                  obtain ⟨sa, hsa⟩ : ∃ x, x = Sha.s0 a_ := ⟨_, rfl⟩
                  obtain ⟨chv, hch⟩ : ∃ x, x = Sha.ch e f g := ⟨_, rfl⟩
                  obtain ⟨mj, hmj⟩ : ∃ x, x = Sha.maj a_ b_ c_ := ⟨_, rfl⟩
                  obtain ⟨one, hone⟩ : ∃ x, x = Sha.St.one ⟨a_, b_, c_, d, e, f, g, h⟩ kk ww := ⟨_, rfl⟩
                  obtain ⟨two, htwo⟩ : ∃ x, x = Sha.St.two ⟨a_, b_, c_, d, e, f, g, h⟩ := ⟨_, rfl⟩
                  have hone' : one = (h + se + chv + kk + ww) % 4294967296 := by rw [hone, hse, hch]; rfl
                  have htwo' : two = (sa + mj) % 4294967296 := by rw [htwo, hsa, hmj]; rfl
                  obtain ⟨m1, x1, x2⟩ := xor3w (Sha.ror e 6) (Sha.ror e 11) (Sha.ror e 25) se (Sha.ror_lt le) (Sha.ror_lt le) (Sha.ror_lt le) _ rfl hse
                  obtain ⟨m2, x3, x4⟩ := xor3w (Sha.ror a_ 2) (Sha.ror a_ 13) (Sha.ror a_ 22) sa (Sha.ror_lt la) (Sha.ror_lt la) (Sha.ror_lt la) _ rfl hsa
                  have lse : se < 4294967296 := by rw [hse]; exact Sha.xor_lt (Sha.xor_lt (Sha.ror_lt le) (Sha.ror_lt le)) (Sha.ror_lt le)
                  have lsa : sa < 4294967296 := by rw [hsa]; exact Sha.xor_lt (Sha.xor_lt (Sha.ror_lt la) (Sha.ror_lt la)) (Sha.ror_lt la)
                  have lef : e &&& f < 4294967296 := Nat.and_lt_two_pow (n := 32) _ lf
                  have lng : (4294967295 - e) &&& g < 4294967296 := Nat.and_lt_two_pow (n := 32) _ lg
                  have lab : a_ &&& b_ < 4294967296 := Nat.and_lt_two_pow (n := 32) _ lb
                  have lac : a_ &&& c_ < 4294967296 := Nat.and_lt_two_pow (n := 32) _ lc
                  have lbc : b_ &&& c_ < 4294967296 := Nat.and_lt_two_pow (n := 32) _ lc
                  have y1 := u64_and_nat e f (by omega) (by omega)
                  have y2 := u64_and_nat (4294967295 - e) g (by omega) (by omega)
                  have y3 := u64_and_nat a_ b_ (by omega) (by omega)
                  have y4 := u64_and_nat a_ c_ (by omega) (by omega)
                  have y5 := u64_and_nat b_ c_ (by omega) (by omega)
                  have y6 := u64_or_nat (e &&& f) ((4294967295 - e) &&& g) (by omega) (by omega)
                  rw [ch_or e f g le, ← hch] at y6
                  have lch : chv < 4294967296 := by rw [hch, ← ch_or e f g le]; exact or_lt lef lng
                  have lmj : mj < 4294967296 := by rw [hmj, ← maj_or]; exact or_lt (or_lt lab lac) lbc
                  have y7 := u64_or_nat (a_ &&& b_) (a_ &&& c_) (by omega) (by omega)
                  have y8 := u64_or_nat ((a_ &&& b_) ||| (a_ &&& c_)) (b_ &&& c_) (Nat.lt_of_lt_of_le (or_lt lab lac) (by decide)) (by omega)
                  rw [maj_or, ← hmj] at y8
                  obtain ⟨nv, hnv⟩ : ∃ x : Nat, x = 4294967295 - e := ⟨_, rfl⟩
                  rw [← hnv] at y2 y6
                  generalize (a_ &&& b_) ||| (a_ &&& c_) = o1 at *
                  generalize nv &&& g = ng at *
                  generalize e &&& f = ef at *
                  generalize a_ &&& b_ = ab at *
                  generalize a_ &&& c_ = ac at *
                  generalize b_ &&& c_ = bc at *
                  obtain ⟨p1, hp1⟩ : ∃ s : Nat, s = h + se := ⟨_, rfl⟩
                  obtain ⟨p2, hp2⟩ : ∃ s : Nat, s = p1 + chv := ⟨_, rfl⟩
                  obtain ⟨p3, hp3⟩ : ∃ s : Nat, s = p2 + kk := ⟨_, rfl⟩
                  obtain ⟨p4, hp4⟩ : ∃ s : Nat, s = p3 + ww := ⟨_, rfl⟩
                  obtain ⟨p5, hp5⟩ : ∃ s : Nat, s = p4 + sa := ⟨_, rfl⟩
                  obtain ⟨p6, hp6⟩ : ∃ s : Nat, s = p5 + mj := ⟨_, rfl⟩
                  obtain ⟨p7, hp7⟩ : ∃ s : Nat, s = d + p4 := ⟨_, rfl⟩
                  obtain ⟨na, hna⟩ : ∃ s : Nat, s = (one + two) % 4294967296 := ⟨_, rfl⟩
                  obtain ⟨ne, hne⟩ : ∃ s : Nat, s = (d + one) % 4294967296 := ⟨_, rfl⟩
                  have t1 : IntKind.u64.wrap ((h : Int) + (se : Int)) = (p1 : Int) := by rw [IntKind.wrap_u64]; omega
                  have t2 : IntKind.u64.wrap ((p1 : Int) + (chv : Int)) = (p2 : Int) := by rw [IntKind.wrap_u64]; omega
                  have t3 : IntKind.u64.wrap ((p2 : Int) + (kk : Int)) = (p3 : Int) := by rw [IntKind.wrap_u64]; omega
                  have t4 : IntKind.u64.wrap ((p3 : Int) + (ww : Int)) = (p4 : Int) := by rw [IntKind.wrap_u64]; omega
                  have t5 : IntKind.u64.wrap ((p4 : Int) + (sa : Int)) = (p5 : Int) := by rw [IntKind.wrap_u64]; omega
                  have t6 : IntKind.u64.wrap ((p5 : Int) + (mj : Int)) = (p6 : Int) := by rw [IntKind.wrap_u64]; omega
                  have t7 : IntKind.u64.wrap ((d : Int) + (p4 : Int)) = (p7 : Int) := by rw [IntKind.wrap_u64]; omega
                  have m6 : bits .and .u64 (p6 : Int) 4294967295 = (na : Int) := by rw [mask p6 (by omega)]; omega
                  have m7 : bits .and .u64 (p7 : Int) 4294967295 = (ne : Int) := by rw [mask p7 (by omega)]; omega
                  have hlist : Hid ([na, a_, b_, c_, ne, e, f, g] = (Sha.rounds l st (k + 1)).list) := by
                    show _ = _
                    rw [hstep.out, hna, hne, hone, htwo]; rfl
                  have hnot : bits .xor .u64 4294967295 (e : Int) = (nv : Int) := by
                    have h1 := u64_xor_nat 4294967295 e (by decide) (by omega)
                    rw [Sha.flip_eq le, ← hnv] at h1
                    exact h1
                  clear hna hne hone htwo hone' htwo' hp1 hp2 hp3 hp4 hp5 hp6 hp7 hnv hse hsa hch hmj lef lng lab lac lbc hstep HKK lk lw lse lsa lch lmj
                  go_wp2_with fail
                  obtain ⟨c0, c1, c2, c4, c5, c6, c7, c8, c9⟩ := HC.out wr rfl
                  go_quiet ((first
                    | (go_at_call 55; exact Calls.quiet_of_same (turnedq e 6 _ le (by decide) (by decide) 6 rfl))
                    | (go_at_call 55; exact Calls.quiet_of_same (turnedq e 11 _ le (by decide) (by decide) 11 rfl))
                    | (go_at_call 55; exact Calls.quiet_of_same (turnedq e 25 _ le (by decide) (by decide) 25 rfl))))
                  obtain ⟨wa, hwa⟩ : ∃ w' : World, w' = wr.drewN nq := ⟨_, rfl⟩
                  rw [← hwa]
                  have hwa2 : wa.heap = wr.heap := by rw [hwa]; rfl
                  clear c0 c1 c2 c4 c5 c6 c7 c8 c9
                  obtain ⟨c0, c1, c2, c4, c5, c6, c7, c8, c9⟩ := HC.out wa hwa2
                  have HWA := Lib.hid hwa
                  have HWA2 := Lib.hid hwa2
                  clear hwa hwa2
                  go_wp2_with fail
                  go_quiet (fail)
                  obtain ⟨wb, hwb⟩ : ∃ w' : World, w' = wa.drewN nq := ⟨_, rfl⟩
                  rw [← hwb]
                  have hwb2 : wb.heap = wr.heap := by rw [hwb]; exact HWA2.out
                  clear c0 c1 c2 c4 c5 c6 c7 c8 c9
                  obtain ⟨c0, c1, c2, c4, c5, c6, c7, c8, c9⟩ := HC.out wb hwb2
                  have HWB := Lib.hid hwb
                  have HWB2 := Lib.hid hwb2
                  clear hwb hwb2
                  go_wp2_with fail
                  go_quiet ((first
                    | (go_at_call 55; exact Calls.quiet_of_same (turnedq a_ 2 _ la (by decide) (by decide) 2 rfl))
                    | (go_at_call 55; exact Calls.quiet_of_same (turnedq a_ 13 _ la (by decide) (by decide) 13 rfl))
                    | (go_at_call 55; exact Calls.quiet_of_same (turnedq a_ 22 _ la (by decide) (by decide) 22 rfl))))
                  obtain ⟨wc, hwc⟩ : ∃ w' : World, w' = wb.drewN nq := ⟨_, rfl⟩
                  rw [← hwc]
                  have hwc2 : wc.heap = wr.heap := by rw [hwc]; exact HWB2.out
                  clear c0 c1 c2 c4 c5 c6 c7 c8 c9
                  obtain ⟨c0, c1, c2, c4, c5, c6, c7, c8, c9⟩ := HC.out wc hwc2
                  have HAc : Hid (Ar wc g11 .u64 82 [a_, b_, c_, d, e, f, g, h]) := HA.out.heap hwc2
                  have HOc : Hid (Only (fun b => b = g11) wB wc) := by
                    show Only _ _ _
                    rw [hwc, HWB.out, HWA.out]
                    exact ((HO.out.drewN _).drewN _).drewN _
                  clear hwc hwc2 HWA HWA2 HWB HWB2
                  go_wp2_with fail
                  clear c0 c1 c2 c4 c5 c6 c7 c8 c9
                  obtain ⟨L0, hL0⟩ : ∃ L, L = [a_, b_, c_, d, e, f, g, h] := ⟨_, rfl⟩
                  have hL0l : L0.length = 8 := by rw [hL0]; rfl
                  rw [← hL0] at HAc
                  have HL0_ := Lib.hid hL0
                  clear hL0 HC HA HO
                  go_loopw [18] (fun v wl => ∃ (j : Nat) (x : List Nat), j ≤ 7 ∧ v = .int .i64 (j : Int) ∧ x.length = 8 ∧ (∀ t, t ≤ j → x.getD t 0 = L0.getD t 0) ∧ (∀ t, j < t → t < 8 → x.getD t 0 = L0.getD (t - 1) 0) ∧ Ar wl g11 .u64 82 x ∧ Only (fun b => b = g11) wB wl) (fun v _ => (intOf v).toNat)
                  case atStart => exact ⟨7, L0, Nat.le_refl _, rfl, hL0l, fun t _ => rfl, fun t h1 h2 => by omega, HAc.out, HOc.out⟩
                  case round =>
                    clear HAc HOc
                    obtain ⟨j5, x, hj, rfl, hx, hlo, hhi, hA, hO⟩ := hrel
                    by_cases hj0 : 0 < j5
                    · have hj0' : 0 < (j5 : Int) := by omega
                      have hj8 : (j5 : Int) < 8 := by omega
                      have c1 := hA.cellD (i := j5 - 1) (by omega)
                      have hd1 := hA.cellD (i := j5) (by omega)
                      have hd2 := hA.frozen j5
                      have hy2 := hlo (j5 - 1) (by omega)
                      rw [hy2] at c1
                      have s1 : (j5 : Int) - 1 = ((j5 - 1 : Nat) : Int) := by omega
                      have s2 : IntKind.i64.wrap ((j5 : Int) - 1) = ((j5 - 1 : Nat) : Int) := by rw [IntKind.wrap_i64]; omega
                      have s3 : ((j5 - 1 : Nat) : Int) < 8 := by omega
                      have s4 : Hid (j5 = (j5 - 1) + 1) := by show _ = _; omega
                      obtain ⟨y, hy⟩ : ∃ y, y = L0.getD (j5 - 1) 0 := ⟨_, rfl⟩
                      rw [← hy] at c1
                      have HY := Lib.hid hy
                      generalize j5 - 1 = i1 at *
                      have HA := Lib.hid hA
                      have HO := Lib.hid hO
                      have HX := Lib.hid hx
                      have HLO := Lib.hid hlo
                      have HHI := Lib.hid hhi
                      clear hA hO hx hlo hhi hy hy2
                      go_wp2
                      go_roundw
                      case rel =>
                        have s5 := s4.out
                        refine ⟨i1, x.set j5 y, by omega, rfl, by rw [List.length_set]; exact HX.out, fun t ht => ?_, fun t h1 h2 => ?_, HA.out.set j5 y, HO.out.setCell (.inl rfl) _⟩
                        · rw [set_getD, if_neg (fun hh => by omega)]; exact HLO.out t (by omega)
                        · rw [set_getD, HX.out]
                          by_cases e : t = j5
                          · rw [if_pos ⟨e, by omega⟩, HY.out, e, show j5 - 1 = i1 by omega]
                          · rw [if_neg (fun hh => e hh.1)]; exact HHI.out t (by omega) h2
                      case measure => have s5 := s4.out; simp [intOf]; omega
                    · obtain rfl : j5 = 0 := by omega
                      have hxe : x = [a_, a_, b_, c_, d, e, f, g] := by
                        refine ext_getD hx rfl (fun t ht => ?_)
                        rcases (by omega : t = 0 ∨ t = 1 ∨ t = 2 ∨ t = 3 ∨ t = 4 ∨ t = 5 ∨ t = 6 ∨ t = 7) with rfl | rfl | rfl | rfl | rfl | rfl | rfl | rfl
                        · rw [hlo 0 (by decide), HL0_.out]; rfl
                        all_goals (rw [hhi _ (by decide) (by decide), HL0_.out]; rfl)
                      subst hxe
                      have c4 : wr.cell? ⟨g11, 4, none⟩ = some (.int .u64 (d : Int)) := hA.cell rfl
                      have f4 := hA.frozen 4
                      have hA2 := hA.set 4 ne
                      have c0 : (wr.setCell ⟨g11, 4, none⟩ (.int .u64 (ne : Int))).cell? ⟨g11, 0, none⟩ = some (.int .u64 (a_ : Int)) := hA2.cell rfl
                      have f0 := hA2.frozen 0
                      have HA2 := Lib.hid (hA2.set 0 na)
                      have HO2 := Lib.hid ((hO.setCell (p := ⟨g11, 4, none⟩) (.inl rfl) (.int .u64 (ne : Int))).setCell (p := ⟨g11, 0, none⟩) (.inl rfl) (.int .u64 (na : Int)))
                      clear hA hA2 hO hx hlo hhi hj0
                      go_wp2
                      go_roundw
                      case rel => exact ⟨k + 1, by omega, by go_num, by rw [← hlist.out]; exact HA2.out, HO2.out⟩
                      case measure => simp [intOf]; omega
                · have hk65 : 64 = k := by omega
                  rw [← hk65] at hA
                  clear hk65
                  obtain ⟨X, hX⟩ : ∃ X, X = (Sha.rounds l st 64).list := ⟨_, rfl⟩
                  have hXl : X.length = 8 := by rw [hX]; rfl
                  have hXlt : ∀ j, X.getD j 0 < 4294967296 := fun j => by rw [hX]; exact ok_getD (Sha.rounds_ok l HST.out 64) j
                  have hhlt : ∀ j, h0.getD j 0 < 4294967296 := fun j => by rw [HH0.out]; exact ok_getD HST.out j
                  rw [← hX] at hA
                  obtain ⟨R, hR⟩ : ∃ R, R = (Sha.mix st bk).list := ⟨_, rfl⟩
                  have hRl : R.length = 8 := by rw [hR]; rfl
                  have hRv : ∀ j, j < 8 → R.getD j 0 = (X.getD j 0 + h0.getD j 0) % 4294967296 := fun j hj => by
                    rw [hR, hX, HH0.out, HSE.out]; exact Sha.add_getD _ _ j hj
                  generalize wr = wC at *
                  have hA2C : Ar wC q2 .u64 82 h0 := HAHB.out.only hO (by have := H11A.out; have := H7A.out; omega)
                  have hOC : Only (fun b => b = q2) wp wC := HOWB.out.trans hO (fun i hi e => by have := H11A.out; have := H7A.out; omega)
                  have HX := Lib.hid hX
                  have HXL := Lib.hid hXl
                  have HXLT := Lib.hid hXlt
                  have HHLT := Lib.hid hhlt
                  have HR := Lib.hid hR
                  have HRL := Lib.hid hRl
                  have HRV := Lib.hid hRv
                  have HAX := Lib.hid hA
                  have HA2C := Lib.hid hA2C
                  have HOC := Lib.hid hOC
                  clear hX hXl hXlt hhlt hR hRl hRv hA hA2C hOC hO HAKB HAHB HA7B HOWB
                  go_wp2
                  go_loopw [215] (fun v wl => ∃ (k : Nat) (y : List Nat), k ≤ 8 ∧ v = .int .i64 (k : Int) ∧ y.length = 8 ∧ (∀ j, j < k → y.getD j 0 = R.getD j 0) ∧ (∀ j, k ≤ j → y.getD j 0 = h0.getD j 0) ∧ Ar wl q2 .u64 82 y ∧ Only (fun b => b = q2) wC wl) (fun v _ => 8 - (intOf v).toNat)
                  case atStart => exact ⟨0, h0, by decide, rfl, HH0L.out, fun j hj => absurd hj (Nat.not_lt_zero _), fun _ _ => rfl, HA2C.out, Only.refl _ _⟩
                  case round =>
                    clear HA2C
                    obtain ⟨k, y, hk, rfl, hy, hlk, hlo, hA, hO⟩ := hrel
                    by_cases hk8 : k < 8
                    · have hk8' : (k : Int) < 8 := by omega
                      have hAX := HAX.out.only hO (by have := H11A.out; have := H7A.out; omega)
                      have c1 := hA.cellD (i := k) (by omega)
                      have c2 := hAX.cellD (i := k) (by rw [HXL.out]; omega)
                      have hd2 := hA.frozen k
                      rw [hlo k (Nat.le_refl _)] at c1
                      have hv := HRV.out k hk8
                      have l1 := HXLT.out k
                      have l2 := HHLT.out k
                      obtain ⟨v1, hv1⟩ : ∃ v, v = R.getD k 0 := ⟨_, rfl⟩
                      rw [← hv1] at hv
                      generalize X.getD k 0 = q at *
                      generalize h0.getD k 0 = p at *
                      obtain ⟨s1, hs1⟩ : ∃ s : Nat, s = p + q := ⟨_, rfl⟩
                      have t1 : IntKind.u64.wrap ((p : Int) + (q : Int)) = (s1 : Int) := by rw [IntKind.wrap_u64]; omega
                      have t2 : bits .and .u64 (s1 : Int) 4294967295 = (v1 : Int) := by rw [mask s1 (by omega)]; omega
                      have HA := Lib.hid hA
                      have HO := Lib.hid hO
                      have HLK := Lib.hid hlk
                      have HLO := Lib.hid hlo
                      have HY := Lib.hid hy
                      have HV1 := Lib.hid hv1
                      clear hA hO hlk hlo hy hv hv1 hs1 l1 l2 hAX
                      go_wp2_with fail
                      go_still_tail 10, (by kernel_rfl)
                      change wpList _ _ _ _ _ wr.drew
                      go_wp2
                      go_roundw
                      case rel =>
                        refine ⟨k + 1, y.set k v1, by omega, by go_num, by rw [List.length_set]; exact HY.out, fun j hj => ?_, fun j hj => ?_, (HA.out.drew).set k v1, HO.out.drew.setCell (.inl rfl) _⟩
                        · rw [set_getD, HY.out]
                          by_cases e : j = k
                          · subst e; rw [if_pos ⟨rfl, by omega⟩, HV1.out]
                          · rw [if_neg (fun hh => e hh.1)]; exact HLK.out j (by omega)
                        · rw [set_getD, if_neg (fun hh => by omega)]; exact HLO.out j (by omega)
                      case measure => simp [intOf]; omega
                    · have hyR : y = R := ext_getD hy HRL.out (by rw [show (8 : Nat) = k by omega]; exact hlk)
                      subst hyR
                      have hOE : Only (fun b => b = q2) wp wr := HOC.out.trans hO (fun _ _ e => e)
                      have HAE : Hid (Ar wr q2 .u64 82 (Sha.blocks pd (i + 1)).list) := by show Ar _ _ _ _ _; rw [hnext.out, ← HR.out]; exact hA
                      have HOE := Lib.hid hOE
                      have hmb : m ≤ 200000 := by have := HM64.out; omega
                      clear hA hO hlk hlo hy hOE
                      go_wp2
                      go_roundw
                      case rel => exact ⟨a + 64, i + 1, by go_num, by have := HAI.out; omega, by omega, HAE.out, HOE.out⟩
                      case measure => simp [intOf]; omega
        · obtain rfl : i = N := by omega
          have ham : a = m := by rw [ha]; exact HM64.out.symm
          obtain ⟨L, hL⟩ : ∃ L, L = (Sha.blocks pd i).list := ⟨_, rfl⟩
          have hLl : L.length = 8 := by rw [hL]; rfl
          have hLlt : ∀ j, L.getD j 0 < 4294967296 := fun j => by rw [hL]; exact ok_getD (Sha.blocks_ok pd i) j
          rw [← hL] at hA
          obtain ⟨D, hD⟩ : ∃ D, D = Sha.digest b := ⟨_, rfl⟩
          have hDL : D = L.flatMap Sha.word4 := by
            rw [hD, hL]; unfold Sha.digest; rw [← HPD.out, HN2.out]
          have hDl : D.length = 32 := by rw [hDL, word4_len, hLl]
          have hDg : ∀ j, D.getD j 0 = L.getD (j / 4) 0 / 256 ^ (3 - j % 4) % 256 := fun j => by rw [hDL]; exact word4_getD L j
          have hA0 : Ar wr w.heap.size .u8 58 z := PA0.out.only hO (by have := N2.out; omega)
          have hBw : Below w.heap.size w wr := PB.out.trans (hO.below (by have := PSZ.out; omega) (fun i hi e => by have := N2.out; omega))
          obtain ⟨wQ, hwQ, hsQ, hBQ, hAQ⟩ := lay wr .u8 58 z
          obtain ⟨g20, hg20⟩ : ∃ g, g = wr.heap.size := ⟨_, rfl⟩
          rw [← hg20] at hAQ hsQ
          have hg2 : wp.heap.size ≤ g20 := by omega
          have HW := Lib.hid hwQ
          have HG20 := Lib.hid hg20
          have HSQ := Lib.hid hsQ
          have HAQ := Lib.hid hAQ
          have HAHQ := Lib.hid (hA.below hBQ)
          have HA0Q := Lib.hid (hA0.below hBQ)
          have HBQ := Lib.hid (hBw.trans (hBQ.mono hBw.size))
          have HG2 := Lib.hid hg2
          have HDD := Lib.hid hD
          have HD := Lib.hid hDg
          have HDl := Lib.hid hDl
          have HLL := Lib.hid hLl
          have HLT := Lib.hid hLlt
          have PQ := Lib.hid pq
          have HAM := Lib.hid ham
          have hnl : ¬ (m : Int) < (m : Int) := by omega
          rw [ham]
          clear hL hLl hLlt hD hDL hDl hDg hA hA0 hBw hwQ hsQ hBQ hAQ hg20 hg2 hO ha ham hlt hi hrq pq PA0 PA1 PB PR HPD HN2 HM64
          go_wp2_with (first
            | (refine wpList_alloc_ar rfl 58 rfl .u8 32 z58 ?_; rw [← HZ.out, ← HW.out, ← HG20.out]))
          clear HW HG20
          go_loopw [229] (fun v wl => ∃ (k : Nat) (y : List Nat), k ≤ 8 ∧ v = .int .i64 (k : Int) ∧ y.length = 32 ∧ (∀ j, j < 4 * k → y.getD j 0 = D.getD j 0) ∧ Ar wl g20 .u8 58 y ∧ Only (fun b => b = g20) wQ wl) (fun v _ => 8 - (intOf v).toNat)
          case atStart => exact ⟨0, z, by decide, rfl, hzl, fun j hj => absurd hj (Nat.not_lt_zero _), HAQ.out, Only.refl _ _⟩
          case round =>
            clear HAQ
            obtain ⟨k, y, hk, rfl, hy, hlk, hA, hO⟩ := hrel
            by_cases hk8 : k < 8
            · have hk8' : (k : Int) < 8 := by omega
              have hAH : Ar wr q2 .u64 82 L := HAHQ.out.only hO (by have := HG2.out; have := PQ.out; omega)
              have c1 := hAH.cellD (i := k) (by rw [HLL.out]; omega)
              have l1 := HLT.out k
              have hDk : ∀ t, t < 4 → D.getD (4 * k + t) 0 = L.getD k 0 / 256 ^ (3 - t) % 256 := fun t ht => by
                have := HD.out (4 * k + t)
                rw [show (4 * k + t) / 4 = k by omega, show (4 * k + t) % 4 = t by omega] at this
                exact this
              generalize L.getD k 0 = x at *
              have HA := Lib.hid hA
              have HO := Lib.hid hO
              have HLK := Lib.hid hlk
              have HY := Lib.hid hy
              have HDK := Lib.hid hDk
              clear hA hO hlk hy hDk hAH
              go_wp2_with fail
              refine (rbytes x 4 wr (by omega) (by decide)).mono ?_
              rintro e w9 ⟨A9, c9, rfl, hO9, hB9⟩
              have HA9 := Lib.hid (HA.out.below hB9)
              have HR9 := Lib.hid hO9.read
              have H9L : Hid (∀ q, blk A9 = some q → q ≠ g20) := fun q hq e => by have := (hO9.lt q hq).1; have := HA.out.lt; omega
              have HO9 : Hid (Only (fun b => b = g20) wQ w9) := HO.out.trans (Only.of_below hB9 (fun _ => False)) (fun _ _ h => h.elim)
              have h9c := hO9.le
              clear hO9 hB9 HA HO
              go_wp2_with fail
              go_loopw [236] (fun v wl => ∃ (t : Nat) (y : List Nat), t ≤ 4 ∧ v = .int .i64 (t : Int) ∧ y.length = 32 ∧ (∀ j, j < 4 * k + t → y.getD j 0 = D.getD j 0) ∧ Ar wl g20 .u8 58 y ∧ Only (fun b => b = g20) w9 wl) (fun v _ => 4 - (intOf v).toNat)
              case atStart => exact ⟨0, y, by decide, rfl, HY.out, fun j hj => HLK.out j (by omega), HA9.out, Only.refl _ _⟩
              case round =>
                clear HA9 HY HLK
                obtain ⟨t, y, ht, rfl, hy, hlk, hA, hO⟩ := hrel
                by_cases ht4 : t < 4
                · have ht4' : (t : Int) < 4 := by omega
                  have hR := HR9.out.only hO H9L.out
                  obtain ⟨ad, y1, had, hy1, hy2, hc⟩ := hR.at_ ht4
                  subst had
                  have hy3 : y1 = D.getD (4 * k + t) 0 := by
                    rw [HDK.out t ht4]
                    rw [beb_get x 4 t ht4] at hy1
                    exact (Option.some.inj hy1).symm
                  obtain ⟨p4, hp4⟩ : ∃ p, p = 4 * k := ⟨_, rfl⟩
                  obtain ⟨p, hp⟩ : ∃ p, p = p4 + t := ⟨_, rfl⟩
                  have x1 : 4 * (k : Int) = (p4 : Int) := by omega
                  have x2 : (p4 : Int) + (t : Int) = (p : Int) := by omega
                  have x3 : (p : Int) < 32 := by omega
                  have x4 : p4 < 32 := by omega
                  have hd1 := hA.cellD (i := p) (by omega)
                  have hd2 := hA.frozen p
                  rw [← hp4, ← hp] at hy3
                  rw [← hp4] at hlk
                  have HP := Lib.hid hp
                  have HP4 := Lib.hid hp4
                  have HA := Lib.hid hA
                  have HO := Lib.hid hO
                  have HLK := Lib.hid hlk
                  have HY := Lib.hid hy
                  have HY3 := Lib.hid hy3
                  clear hA hO hlk hy hy3 hy1 hp hp4 hR
                  go_wp2
                  go_roundw
                  case rel =>
                    refine ⟨t + 1, y.set p y1, by omega, by go_num, by rw [List.length_set]; exact HY.out, fun j hj => ?_, HA.out.set p y1, HO.out.setCell (.inl rfl) _⟩
                    rw [set_getD, HY.out]
                    by_cases e : j = p
                    · subst e; rw [if_pos ⟨rfl, by omega⟩, HY3.out]
                    · rw [if_neg (fun hh => e hh.1)]; exact HLK.out j (by have := HP.out; have := HP4.out; omega)
                  case measure => simp [intOf]; omega
                · obtain rfl : t = 4 := by omega
                  have HA := Lib.hid hA
                  have HOE : Hid (Only (fun b => b = g20) wQ wr) := HO9.out.trans hO (fun _ _ e => e)
                  have HLK := Lib.hid hlk
                  have HY := Lib.hid hy
                  clear hA hO hlk hy
                  go_wp2
                  go_roundw
                  case rel => exact ⟨k + 1, y, by omega, by go_num, HY.out, fun j hj => HLK.out j (by omega), HA.out, HOE.out⟩
                  case measure => simp [intOf]; omega
            · have hyD : y = D := ext_getD hy HDl.out (by rw [show (32 : Nat) = 4 * k by omega]; exact hlk)
              subst hyD
              have hA0 : Ar wr w.heap.size .u8 58 z := HA0Q.out.only hO (by have := HG2.out; have := PSZ.out; omega)
              have HBE := Lib.hid (HBQ.out.trans (hO.below HBQ.out.size (fun i hi e => by have := HG2.out; have := PSZ.out; omega)))
              have e1 : Hid ((Try.prog.info? 58).map (·.size) = some y.length) := by show _ = _; rw [hy]; exact s58
              have e2 : Hid ((Try.prog.info? 58).map (·.size) = some z.length) := by show _ = _; rw [hzl]; exact s58
              have e3 : Hid (z.length = y.length) := by show _ = _; rw [hzl, hy]
              have HA := Lib.hid hA
              have HA0 := Lib.hid hA0
              clear hA hA0 hO hlk hy
              go_wp2_with (first
                | (refine wpList_load_ar rfl 58 _ rfl g20 rfl .u8 y HA.out 32 5 y58 e1.out ?_)
                | (refine wpList_store_ar rfl 58 _ _ rfl rfl w.heap.size rfl .u8 z y rfl HA0.out e2.out e3.out ?_))
              exact bodyPost_ret (results_ar rfl _ _ w.heap.size .u8 y rfl (Ar.row HA0.out y) 32 5 y58 e1.out) rfl ⟨congrArg (fun x => Ending.returned (.agg (mk .u8 x))) HDD.out, below_setRow HBE.out (Nat.le_refl _) _⟩
end Go.Proofs.Ytinndlofnpkfhaa
