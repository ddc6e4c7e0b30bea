/-
  The walk of sum.mix.
-/
import Derived.Test.YtinndlofnpkfhaaSched
import Derived.Test.YtinndlofnpkfhaaSteps
namespace Go.Proofs.Ytinndlofnpkfhaa
open Go.RowKit

theorem built79 (x0 x1 x2 x3 x4 x5 x6 x7 : Int) : Try.prog.built 79 [(0, .int .u32 x0), (1, .int .u32 x1), (2, .int .u32 x2), (3, .int .u32 x3), (4, .int .u32 x4), (5, .int .u32 x5), (6, .int .u32 x6), (7, .int .u32 x7)]
    = some #[.int .u32 x0, .int .u32 x1, .int .u32 x2, .int .u32 x3, .int .u32 x4, .int .u32 x5, .int .u32 x6, .int .u32 x7] := by kernel_rfl

theorem K_len : Sha.K.length = 64 := rfl
theorem K_lt (j : Nat) : Sha.K.getD j 0 < 4294967296 := by
  by_cases h : j < 64
  · exact (by decide +kernel : ∀ j : Nat, j < 64 → Sha.K.getD j 0 < 4294967296) j h
  · rw [List.getD_eq_getElem?_getD, List.getElem?_eq_none (by rw [K_len]; omega)]; decide

attribute [local irreducible] Calls in
set_option maxRecDepth 8000 in
set_option maxHeartbeats 1000000 in
theorem mix_any (A : Option Addr) (n c : Nat) (b S : List Nat) (w : World) (hb : RB w A n b) (hn : 64 ≤ n) (hS : IsSched b S) (st : Sha.St) (hst : ∀ k, (Sha.rounds S st k).ok) :
    Calls Try.prog 54 #[.agg (mk .u32 st.list), .slice A n c] w fun e w' => e = .returned (.agg (mk .u32 ((Sha.rounds S st 64).add st).list)) ∧ Below w.heap.size w w' := by
  have HS := Lib.hid hS
  have HST := Lib.hid hst
  clear hS hst
  go_enter Try.func54, Try.ntmps54
  obtain ⟨l0, hl0⟩ : ∃ l, l = st.list := ⟨_, rfl⟩
  have hl0l : l0.length = 8 := by rw [hl0]; rfl
  have HL0 := Lib.hid hl0
  rw [← hl0]
  clear hl0
  obtain ⟨w0, hw0, hs0, hB0, hA0⟩ := lay w .u32 79 l0
  obtain ⟨z1, hz1⟩ : ∃ z, z = List.replicate 8 0 := ⟨_, rfl⟩
  have hz1l : z1.length = 8 := by rw [hz1]; simp
  have HZ1 := Lib.hid hz1
  clear hz1
  obtain ⟨w1, hw1, hs1, hB1, hA1⟩ := lay w0 .u32 79 z1
  have HW0 := Lib.hid hw0
  have HW1 := Lib.hid hw1
  have hA01 := hA0.below hB1
  have hBB := hB0.trans (hB1.mono hB0.size)
  rw [hs0] at hs1 hA1
  clear hw0 hw1
  go_wp2_with (first
    | (refine wpList_box_ar rfl 79 _ rfl .u32 l0 rfl ?_; rw [← HW0.out])
    | (refine wpList_alloc_ar rfl 79 rfl .u32 8 z79 ?_; rw [← HZ1.out, ← HW1.out]))
  refine (sched_any A n c b S w1 (hb.below hBB) hn HS.out).mono ?_
  rintro e w2 ⟨rfl, hB2⟩
  go_wp2_with fail
  refine (steps_any w2).mono ?_
  rintro e w3 ⟨rfl, hB3⟩
  obtain ⟨z, hz⟩ : ∃ z, z = List.replicate 64 0 := ⟨_, rfl⟩
  have hzl : z.length = 64 := by rw [hz]; simp
  have HZ := Lib.hid hz
  clear hz
  obtain ⟨K, hK⟩ : ∃ K, K = Sha.K := ⟨_, rfl⟩
  have hKl : K.length = 64 := by rw [hK]; rfl
  have HK := Lib.hid hK
  rw [← hK]
  clear hK
  obtain ⟨w4, hw4, hs4, hB4, hA4⟩ := lay w3 .u32 89 z
  obtain ⟨w5, hw5, hs5, hB5, hA5⟩ := lay w4 .u32 89 z
  obtain ⟨w6, hw6, hs6, hB6, hA6, ho6⟩ := putrow S (hA4.below hB5)
  obtain ⟨w7, hw7, hs7, hB7, hA7, ho7⟩ := putrow K (hA5.only ho6 (by omega))
  obtain ⟨w8, hw8, hs8, hB8, hA8⟩ := lay w7 .u32 79 z1
  obtain ⟨w9, hw9, hs9, hB9, hA9, ho9⟩ := putrow l0 hA8
  have HW4 := Lib.hid hw4
  have HW5 := Lib.hid hw5
  have HW6 := Lib.hid hw6
  have HW7 := Lib.hid hw7
  have HW8 := Lib.hid hw8
  have HW9 := Lib.hid hw9
  clear hw4 hw5 hw6 hw7 hw8 hw9
  have hq := hBB.size
  have hq2 := hB2.size
  have hq3 := hB3.size
  have z3 : w1.heap.size ≤ w3.heap.size := by omega
  have B19 : Below w1.heap.size w1 w9 := (((((((hB2.trans (hB3.mono hq2)).trans (hB4.mono z3)).trans (hB5.mono (by omega))).trans (hB6.mono z3)).trans (hB7.mono (by omega))).trans (hB8.mono (by omega))).trans (hB9.mono (by omega)))
  have g0 := hA01.below B19
  have g1 := hA1.below B19
  have g4 := ((hA6.only ho7 (by omega)).below hB8).only ho9 (by omega)
  have g5 := (hA7.below hB8).only ho9 (by omega)
  have g8 := hA9
  have B09 : Below w.heap.size w w9 := hBB.trans (B19.mono hq)
  have n01 : w.heap.size + 1 < w3.heap.size := by omega
  have n45 : w3.heap.size < w4.heap.size := by omega
  have n58 : w4.heap.size < w7.heap.size := by omega
  have H01 := Lib.hid hA01
  have H2 := Lib.hid (hA4.below hB5)
  have H3 := Lib.hid (hA5.only ho6 (by omega))
  have H7 := Lib.hid ((hA01.below (hB2.trans ((((hB3.trans (hB4.mono hq3)).trans ((hB5.mono (by omega)).trans ((hB6.mono hq3).trans (hB7.mono (by omega)))))).mono hq2))))
  have H8 := Lib.hid hA8
  have HG := Lib.hid (And.intro g0 (And.intro g1 (And.intro g4 (And.intro g5 (And.intro g8 (And.intro B09 (And.intro n01 (And.intro n45 n58))))))))
  have sl0 : (Try.prog.info? 79).map (·.size) = some l0.length := by rw [hl0l]; exact s79
  have sz : (Try.prog.info? 89).map (·.size) = some z.length := by rw [hzl]; exact s89
  have sz1 : (Try.prog.info? 79).map (·.size) = some z1.length := by rw [hz1l]; exact s79
  have SL := Lib.hid sl0
  have SZ := Lib.hid sz
  have SZ1 := Lib.hid sz1
  have e1 : z.length = S.length := by rw [hzl, HS.out.len]
  have e2 : z.length = K.length := by rw [hzl, hKl]
  have e3 : z1.length = l0.length := by rw [hz1l, hl0l]
  have E1 := Lib.hid e1
  have E2 := Lib.hid e2
  have E3 := Lib.hid e3
  clear hB0 hB1 hA0 hA1 hA01 hBB hB2 hB3 hB4 hA4 hB5 hA5 hB6 hA6 ho6 hB7 hA7 ho7 hB8 hA8 hB9 hA9 ho9 hq hq2 hq3 z3 B19 g0 g1 g4 g5 g8 B09 n01 n45 n58 hs0 hs1 hs4 hs5 hs6 hs7 hs8 hs9 sl0 sz sz1 e1 e2 e3 hb
  go_wp2_with (first
    | (refine wpList_alloc_ar rfl 89 rfl .u32 64 z89 ?_; rw [← HZ.out]; first | rw [← HW4.out] | rw [← HW5.out])
    | (refine wpList_alloc_ar rfl 79 rfl .u32 8 z79 ?_; rw [← HZ1.out, ← HW8.out])
    | (refine wpList_store_ar rfl 89 _ _ rfl rfl w3.heap.size rfl .u32 z S rfl H2.out SZ.out E1.out ?_; rw [← HW6.out])
    | (refine wpList_store_ar rfl 89 _ _ rfl rfl w4.heap.size rfl .u32 z K rfl H3.out SZ.out E2.out ?_; rw [← HW7.out])
    | (refine wpList_load_ar rfl 79 _ rfl w.heap.size rfl .u32 l0 H7.out 8 24 y79 SL.out ?_)
    | (refine wpList_store_ar rfl 79 _ _ rfl rfl w7.heap.size rfl .u32 z1 l0 rfl H8.out SZ1.out E3.out ?_; rw [← HW9.out]))
  clear HW0 HW1 HW4 HW5 HW6 HW7 HW8 HW9 H01 H2 H3 H7 H8 SL SZ SZ1 E1 E2 E3 HZ HZ1
  obtain ⟨g0, g1, g4, g5, g8, B09, n01, n45, n58⟩ := HG.out
  clear HG
  have G0 := Lib.hid g0
  have G1 := Lib.hid g1
  have G4 := Lib.hid g4
  have G5 := Lib.hid g5
  have GB := Lib.hid B09
  have N01 := Lib.hid n01
  have N45 := Lib.hid n45
  have N58 := Lib.hid n58
  have HZL := Lib.hid hz1l
  clear g0 g1 g4 g5 B09 n01 n45 n58 hzl hz1l
  rw [HL0.out] at g8
  have g8' : Ar w9 w7.heap.size .u32 79 (Sha.rounds S st 0).list := g8
  clear g8
  go_loopw [18] (fun i wr => ∃ k : Nat, k ≤ 64 ∧ i = .int .i64 k ∧ Ar wr w7.heap.size .u32 79 (Sha.rounds S st k).list ∧ Only (fun b => b = w7.heap.size) w9 wr) (fun i _ => 64 - (intOf i).toNat)
  case atStart => exact ⟨0, by decide, rfl, g8', Only.refl _ _⟩
  case round =>
    clear g8'
    obtain ⟨k, hk, rfl, hA, hO⟩ := hrel
    have hA4 : Ar wr w3.heap.size .u32 89 S := G4.out.only hO (by have := N45.out; have := N58.out; omega)
    have hA5 : Ar wr w4.heap.size .u32 89 K := G5.out.only hO (by have := N58.out; omega)
    by_cases hlt : k < 64
    · have hok := HST.out k
      have hstep : Hid (Sha.rounds S st (k + 1) = (Sha.rounds S st k).step (Sha.K.getD k 0) (S.getD k 0)) := rfl
      have ck := hA5.cellD (i := k) (by omega)
      have cw := hA4.cellD (i := k) (by rw [HS.out.len]; omega)
      have lk : K.getD k 0 < 4294967296 := by rw [HK.out]; exact K_lt k
      have lw := HS.out.lt k
      have hkk : Hid (Sha.K.getD k 0 = K.getD k 0) := by show _ = _; rw [HK.out]
      generalize S.getD k 0 = ww at *
      obtain ⟨kk, hkk0⟩ : ∃ kk, kk = K.getD k 0 := ⟨_, rfl⟩
      rw [← hkk0] at ck lk
      have HKK : Hid (Sha.K.getD k 0 = kk) := by show _ = _; rw [hkk0]; exact hkk.out
      clear hkk hkk0
      obtain ⟨r, hr⟩ : ∃ r, r = Sha.rounds S st k := ⟨_, rfl⟩
      rw [← hr] at hok hA hstep
      rw [HKK.out] at hstep
      clear hr
      obtain ⟨a, b', c', d, e, f, g, h⟩ := r
      obtain ⟨la, lb, lc, ld, le, lf, lg, lh⟩ : a < 4294967296 ∧ b' < 4294967296 ∧ c' < 4294967296 ∧ d < 4294967296 ∧ e < 4294967296 ∧ f < 4294967296 ∧ g < 4294967296 ∧ h < 4294967296 := hok
      have HC : Hid (∀ w' : World, w'.heap = wr.heap → w'.cell? ⟨w7.heap.size, 0, none⟩ = some (.int .u32 (a : Int)) ∧ w'.cell? ⟨w7.heap.size, 1, none⟩ = some (.int .u32 (b' : Int)) ∧ w'.cell? ⟨w7.heap.size, 2, none⟩ = some (.int .u32 (c' : Int)) ∧ w'.cell? ⟨w7.heap.size, 3, none⟩ = some (.int .u32 (d : Int))
          ∧ w'.cell? ⟨w7.heap.size, 4, none⟩ = some (.int .u32 (e : Int)) ∧ w'.cell? ⟨w7.heap.size, 5, none⟩ = some (.int .u32 (f : Int)) ∧ w'.cell? ⟨w7.heap.size, 6, none⟩ = some (.int .u32 (g : Int)) ∧ w'.cell? ⟨w7.heap.size, 7, none⟩ = some (.int .u32 (h : Int))
          ∧ w'.cell? ⟨w4.heap.size, k, none⟩ = some (.int .u32 (kk : Int)) ∧ w'.cell? ⟨w3.heap.size, k, none⟩ = some (.int .u32 (ww : Int))) := fun w' hw' =>
        ⟨(hA.heap hw').cell rfl, (hA.heap hw').cell rfl, (hA.heap hw').cell rfl, (hA.heap hw').cell rfl, (hA.heap hw').cell rfl, (hA.heap hw').cell rfl, (hA.heap hw').cell rfl, (hA.heap hw').cell rfl,
          by rw [World.cell?_of_block (w := wr) (by rw [hw'])]; exact ck, by rw [World.cell?_of_block (w := wr) (by rw [hw'])]; exact cw⟩
      have HA := Lib.hid hA
      have HO := Lib.hid hO
      clear hA hO hA4 hA5 ck cw
      -- the numbers
      obtain ⟨se, hse⟩ : ∃ x, x = Sha.s1 e := ⟨_, rfl⟩
      obtain ⟨sa, hsa⟩ : ∃ x, x = Sha.s0 a := ⟨_, rfl⟩
      obtain ⟨chv, hch⟩ : ∃ x, x = Sha.ch e f g := ⟨_, rfl⟩
      obtain ⟨mj, hmj⟩ : ∃ x, x = Sha.maj a b' c' := ⟨_, rfl⟩
      obtain ⟨one, hone⟩ : ∃ x, x = Sha.St.one ⟨a, b', c', d, e, f, g, h⟩ kk ww := ⟨_, rfl⟩
      obtain ⟨two, htwo⟩ : ∃ x, x = Sha.St.two ⟨a, b', c', d, e, f, g, h⟩ := ⟨_, rfl⟩
      have hone' : one = (h + se + chv + kk + ww) % 4294967296 := by rw [hone, hse, hch]; rfl
      have htwo' : two = (sa + mj) % 4294967296 := by rw [htwo, hsa, hmj]; rfl
      obtain ⟨m1, x1, x2⟩ := xor3 (Sha.ror e 6) (Sha.ror e 11) (Sha.ror e 25) se (Sha.ror_lt le) (Sha.ror_lt le) (Sha.ror_lt le) _ rfl hse
      obtain ⟨m2, x3, x4⟩ := xor3 (Sha.ror a 2) (Sha.ror a 13) (Sha.ror a 22) sa (Sha.ror_lt la) (Sha.ror_lt la) (Sha.ror_lt la) _ rfl hsa
      have lef : e &&& f < 4294967296 := Nat.and_lt_two_pow (n := 32) _ lf
      have lng : (4294967295 - e) &&& g < 4294967296 := Nat.and_lt_two_pow (n := 32) _ lg
      have lab : a &&& b' < 4294967296 := Nat.and_lt_two_pow (n := 32) _ lb
      have lac : a &&& c' < 4294967296 := Nat.and_lt_two_pow (n := 32) _ lc
      have lbc : b' &&& c' < 4294967296 := Nat.and_lt_two_pow (n := 32) _ lc
      have y1 := u32_and_nat e f le lf
      have y2 := u32_and_nat (4294967295 - e) g (by omega) lg
      have y3 := u32_and_nat a b' la lb
      have y4 := u32_and_nat a c' la lc
      have y5 := u32_and_nat b' c' lb lc
      have y6 := u32_xor_nat (e &&& f) ((4294967295 - e) &&& g) lef lng
      obtain ⟨m3, y7, y8⟩ := xor3 (a &&& b') (a &&& c') (b' &&& c') mj lab lac lbc _ rfl hmj
      have hy6 : chv = (e &&& f) ^^^ ((4294967295 - e) &&& g) := hch
      rw [← hy6] at y6
      obtain ⟨nv, hnv⟩ : ∃ x : Nat, x = 4294967295 - e := ⟨_, rfl⟩
      rw [← hnv] at y2 y6 hy6
      generalize nv &&& g = ng at *
      generalize e &&& f = ef at *
      generalize a &&& b' = ab at *
      generalize a &&& c' = ac at *
      generalize b' &&& c' = bc at *
      obtain ⟨p1, hp1⟩ : ∃ s : Nat, s = (h + se) % 4294967296 := ⟨_, rfl⟩
      obtain ⟨p2, hp2⟩ : ∃ s : Nat, s = (p1 + chv) % 4294967296 := ⟨_, rfl⟩
      obtain ⟨p3, hp3⟩ : ∃ s : Nat, s = (p2 + kk) % 4294967296 := ⟨_, rfl⟩
      obtain ⟨na, hna⟩ : ∃ s : Nat, s = (one + two) % 4294967296 := ⟨_, rfl⟩
      obtain ⟨ne, hne⟩ : ∃ s : Nat, s = (d + one) % 4294967296 := ⟨_, rfl⟩
      have t1 : IntKind.u32.wrap ((h : Int) + (se : Int)) = (p1 : Int) := by rw [IntKind.wrap_u32]; omega
      have t2 : IntKind.u32.wrap ((p1 : Int) + (chv : Int)) = (p2 : Int) := by rw [IntKind.wrap_u32]; omega
      have t3 : IntKind.u32.wrap ((p2 : Int) + (kk : Int)) = (p3 : Int) := by rw [IntKind.wrap_u32]; omega
      have t4 : IntKind.u32.wrap ((p3 : Int) + (ww : Int)) = (one : Int) := by rw [IntKind.wrap_u32]; omega
      have t5 : IntKind.u32.wrap ((sa : Int) + (mj : Int)) = (two : Int) := by rw [IntKind.wrap_u32]; omega
      have t6 : IntKind.u32.wrap ((one : Int) + (two : Int)) = (na : Int) := by rw [IntKind.wrap_u32]; omega
      have t7 : IntKind.u32.wrap ((d : Int) + (one : Int)) = (ne : Int) := by rw [IntKind.wrap_u32]; omega
      have hlist : Hid ([na, a, b', c', ne, e, f, g] = (Sha.rounds S st (k + 1)).list) := by
        show _ = _
        rw [hstep.out, hna, hne, hone, htwo]; rfl
      have hnot : bits .xor .u32 IntKind.u32.max (e : Int) = (nv : Int) := by
        have h1 := u32_xor_nat 4294967295 e (by decide) le
        rw [Sha.flip_eq le, ← hnv] at h1
        rw [show IntKind.u32.max = ((4294967295 : Nat) : Int) by decide]; exact h1
      have hk64 : (k : Int) < 64 := by omega
      have hsg : IntKind.u32.signed = false := rfl
      clear hna hne hone htwo hone' htwo' hp1 hp2 hp3 hnv hy6 hse hsa hch hmj lef lng lab lac lbc hstep HKK lk lw
      go_wp2_with fail
      obtain ⟨c0, c1, c2, c3, c4, c5, c6, c7, c8, c9⟩ := HC.out wr rfl
      go_quiet (fail)
      clear c0 c1 c2 c3 c4 c5 c6 c7 c8 c9
      go_wp2_with fail
      obtain ⟨wa, hwa⟩ : ∃ w' : World, w' = wr.drewN nq := ⟨_, rfl⟩
      rw [← hwa]
      obtain ⟨c0, c1, c2, c3, c4, c5, c6, c7, c8, c9⟩ := HC.out wa (by rw [hwa]; rfl)
      have HWA := Lib.hid hwa
      clear hwa
      go_quiet ((first
        | (go_at_call 61; exact Calls.quiet_of_same (rotq e 6 _ le (by decide) (by decide) (-6) rfl))
        | (go_at_call 61; exact Calls.quiet_of_same (rotq e 11 _ le (by decide) (by decide) (-11) rfl))
        | (go_at_call 61; exact Calls.quiet_of_same (rotq e 25 _ le (by decide) (by decide) (-25) rfl))))
      clear c0 c1 c2 c3 c4 c5 c6 c7 c8 c9
      go_wp2_with fail
      obtain ⟨wb, hwb⟩ : ∃ w' : World, w' = wa.drewN nq := ⟨_, rfl⟩
      have hwb2 : wb.heap = wr.heap := by rw [hwb, HWA.out]; rfl
      obtain ⟨c0, c1, c2, c3, c4, c5, c6, c7, c8, c9⟩ := HC.out wb hwb2
      have HWB := Lib.hid hwb
      have HWB2 := Lib.hid hwb2
      rw [← hwb]
      clear hwb hwb2
      go_quiet ((first
        | (go_at_call 61; exact Calls.quiet_of_same (rotq a 2 _ la (by decide) (by decide) (-2) rfl))
        | (go_at_call 61; exact Calls.quiet_of_same (rotq a 13 _ la (by decide) (by decide) (-13) rfl))
        | (go_at_call 61; exact Calls.quiet_of_same (rotq a 22 _ la (by decide) (by decide) (-22) rfl))))
      obtain ⟨wc, hwc⟩ : ∃ w' : World, w' = wb.drewN nq := ⟨_, rfl⟩
      have hwc2 : wc.heap = wr.heap := by rw [hwc]; exact HWB2.out
      clear c0 c1 c2 c3 c4 c5 c6 c7 c8 c9
      obtain ⟨c0, c1, c2, c3, c4, c5, c6, c7, c8, c9⟩ := HC.out wc hwc2
      rw [← hwc]
      have hAc : Ar wc w7.heap.size .u32 79 [a, b', c', d, e, f, g, h] := HA.out.heap hwc2
      obtain ⟨wd, hwd, hsd, hBd, hAd, hOd⟩ := putrow [na, a, b', c', ne, e, f, g] hAc
      have hOc : Only (fun b => b = w7.heap.size) w9 wc := by
        rw [hwc, HWB.out, HWA.out]
        exact ((HO.out.drewN _).drewN _).drewN _
      have HOd := Lib.hid (hOc.trans hOd (fun _ _ h => h))
      have HAc := Lib.hid hAc
      have HAd := Lib.hid hAd
      have HWD := Lib.hid hwd
      clear hwc hwc2 hAc hwd hsd hBd hAd hOd hOc
      go_wp2_with (first
        | (refine Great.wpList_buildTo rfl 79 _ rfl (some 96) rfl (mk .u32 [na, a, b', c', ne, e, f, g]) (built79 _ _ _ _ _ _ _ _) ?_)
        | (refine wpList_store_ar rfl 79 _ _ rfl rfl w7.heap.size rfl .u32 [a, b', c', d, e, f, g, h] [na, a, b', c', ne, e, f, g] rfl HAc.out s79 rfl ?_; rw [← HWD.out]))
      go_roundw
      case rel => exact ⟨k + 1, by omega, by go_num, by rw [← hlist.out]; exact HAd.out, HOd.out⟩
      case measure => simp [intOf]; omega
    · have hk64 : 64 = k := by omega
      rw [← hk64] at hA
      have hR : ∀ j, j < 8 → ((Sha.rounds S st 64).add st).list.getD j 0 = ((Sha.rounds S st 64).list.getD j 0 + l0.getD j 0) % 4294967296 := fun j hj => by rw [HL0.out]; exact Sha.add_getD _ _ j hj
      have HRR := Lib.hid hR
      obtain ⟨R, hRe⟩ : ∃ R, R = ((Sha.rounds S st 64).add st).list := ⟨_, rfl⟩
      have hRl : R.length = 8 := by rw [hRe]; rfl
      have HRE := Lib.hid hRe
      rw [← hRe] at HRR
      clear hRe hR
      obtain ⟨l1, hl1⟩ : ∃ l, l = (Sha.rounds S st 64).list := ⟨_, rfl⟩
      have hl1l : l1.length = 8 := by rw [hl1]; rfl
      rw [← hl1] at HRR hA
      clear hl1 hA4 hA5 HST hk64
      have H0 := Lib.hid hA
      have H1 := Lib.hid hO
      clear hA hO
      go_wp2
      clear hlt hk
      go_loopw [98] (fun i wr => ∃ (k : Nat) (l : List Nat), k ≤ 8 ∧ i = .int .i64 k ∧ l.length = 8 ∧ (∀ j, j < k → l.getD j 0 = R.getD j 0) ∧ (∀ j, k ≤ j → l.getD j 0 = l1.getD j 0) ∧ Ar wr w7.heap.size .u32 79 l ∧ Only (fun b => b = w7.heap.size) w9 wr) (fun i _ => 8 - (intOf i).toNat)
      case atStart => exact ⟨0, l1, by decide, rfl, hl1l, fun j hj => absurd hj (by omega), fun j _ => rfl, H0.out, H1.out⟩
      case round =>
        clear H0 H1
        obtain ⟨k, l, hk, rfl, hl, hlk, hlo, hA, hO⟩ := hrel
        have hA0 : Ar wr w.heap.size .u32 79 l0 := G0.out.only hO (by have := N01.out; have := N45.out; have := N58.out; omega)
        by_cases hlt : k < 8
        · have c1 := hA.cellD (i := k) (by omega)
          have c2 := hA0.cellD (i := k) (by omega)
          have hd2 := hA.frozen k
          have hv := HRR.out k hlt
          have hlk1 := hlo k (Nat.le_refl _)
          rw [hlk1] at c1
          obtain ⟨y, hy⟩ : ∃ y, y = R.getD k 0 := ⟨_, rfl⟩
          rw [← hy] at hv
          generalize l1.getD k 0 = p at *
          generalize l0.getD k 0 = q at *
          have t1 : IntKind.u32.wrap ((p : Int) + (q : Int)) = (y : Int) := by rw [IntKind.wrap_u32]; omega
          have hk8 : (k : Int) < 8 := by omega
          have HA := Lib.hid hA
          have HO := Lib.hid hO
          have HLK := Lib.hid hlk
          have HLO := Lib.hid hlo
          have HL := Lib.hid hl
          have HY := Lib.hid hy
          clear hA hA0 hO hlk hlo hl hy hv hlk1
          go_wp2_with fail
          go_still_tail 8, (by kernel_rfl)
          change wpList _ _ _ _ _ wr.drew
          go_wp2
          go_roundw
          case rel =>
            refine ⟨k + 1, l.set k y, by omega, by go_num, by rw [List.length_set]; exact HL.out, fun j hj => ?_, fun j hj => ?_, (HA.out.drew).set k y, HO.out.drew.setCell (.inl rfl) _⟩
            · rw [set_getD, HL.out]
              by_cases e : j = k
              · subst e; rw [if_pos ⟨rfl, by omega⟩, HY.out]
              · rw [if_neg (fun h => e h.1)]; exact HLK.out j (by omega)
            · rw [set_getD, if_neg (fun h => by omega)]; exact HLO.out j (by omega)
          case measure => simp [intOf]; omega
        · have hlR : l = R := ext_getD hl hRl (by rw [show (8 : Nat) = k by omega]; exact hlk)
          subst hlR
          have hA1 : Ar wr (w.heap.size + 1) .u32 79 z1 := G1.out.only hO (by have := N01.out; have := N45.out; have := N58.out; omega)
          have hB : Below w.heap.size w wr := GB.out.trans (hO.below GB.out.size (fun i hi => by have := N01.out; have := N45.out; have := N58.out; omega))
          have sl : (Try.prog.info? 79).map (·.size) = some l.length := by rw [hl]; exact s79
          have HA := Lib.hid hA
          have HA1 := Lib.hid hA1
          have HB := Lib.hid hB
          have SL := Lib.hid sl
          have E1 : Hid (z1.length = l.length) := by show _ = _; rw [hl, HZL.out]
          have SZ : Hid ((Try.prog.info? 79).map (·.size) = some z1.length) := by show _ = _; rw [HZL.out]; exact s79
          clear hA hA0 hO hlk hlo hA1 hB sl
          go_wp2_with (first
            | (refine wpList_load_ar rfl 79 _ rfl w7.heap.size rfl .u32 l HA.out 8 24 y79 SL.out ?_)
            | (refine wpList_store_ar rfl 79 _ _ rfl rfl (w.heap.size + 1) rfl .u32 z1 l rfl HA1.out SZ.out E1.out ?_))
          exact bodyPost_ret (results_ar rfl _ _ (w.heap.size + 1) .u32 l rfl (Ar.row HA1.out l) 8 24 y79 SL.out) rfl ⟨congrArg (fun x => Ending.returned (.agg (mk .u32 x))) HRE.out, below_setRow HB.out (Nat.le_succ _) _⟩
end Go.Proofs.Ytinndlofnpkfhaa
