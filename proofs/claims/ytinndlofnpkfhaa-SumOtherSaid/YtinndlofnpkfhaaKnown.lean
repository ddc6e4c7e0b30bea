/-
  The digest of the three bytes of abc is the one that is known: the schedule and the rounds, one step after the other.
-/
import Derived.Test.YtinndlofnpkfhaaHex
namespace Go.Proofs.Ytinndlofnpkfhaa.Known
def blk : List Nat := [97, 98, 99, 128, 0, 0, 0, 0, 0, 0, 0, 0, 0, 0, 0, 0, 0, 0, 0, 0, 0, 0, 0, 0, 0, 0, 0, 0, 0, 0, 0, 0, 0, 0, 0, 0, 0, 0, 0, 0, 0, 0, 0, 0, 0, 0, 0, 0, 0, 0, 0, 0, 0, 0, 0, 0, 0, 0, 0, 0, 0, 0, 0, 24]
theorem blk_lt : ∀ x ∈ blk, x < 256 := by decide
def S : List Nat := Sha.sched blk
theorem nxt (i : Nat) (h1 : 16 ≤ i) (h2 : i < 64) : S.getD i 0 = (S.getD (i - 16) 0 + Sha.low (S.getD (i - 15) 0) + S.getD (i - 7) 0 + Sha.high (S.getD (i - 2) 0)) % 4294967296 := (isSched blk blk_lt).next i h1 h2
theorem w0 : S.getD 0 0 = 1633837952 := by rw [show S.getD 0 0 = Sha.be blk 0 from (isSched blk blk_lt).first 0 (by decide)]; kernel_rfl
theorem w1 : S.getD 1 0 = 0 := by rw [show S.getD 1 0 = Sha.be blk 1 from (isSched blk blk_lt).first 1 (by decide)]; kernel_rfl
theorem w2 : S.getD 2 0 = 0 := by rw [show S.getD 2 0 = Sha.be blk 2 from (isSched blk blk_lt).first 2 (by decide)]; kernel_rfl
theorem w3 : S.getD 3 0 = 0 := by rw [show S.getD 3 0 = Sha.be blk 3 from (isSched blk blk_lt).first 3 (by decide)]; kernel_rfl
theorem w4 : S.getD 4 0 = 0 := by rw [show S.getD 4 0 = Sha.be blk 4 from (isSched blk blk_lt).first 4 (by decide)]; kernel_rfl
theorem w5 : S.getD 5 0 = 0 := by rw [show S.getD 5 0 = Sha.be blk 5 from (isSched blk blk_lt).first 5 (by decide)]; kernel_rfl
theorem w6 : S.getD 6 0 = 0 := by rw [show S.getD 6 0 = Sha.be blk 6 from (isSched blk blk_lt).first 6 (by decide)]; kernel_rfl
theorem w7 : S.getD 7 0 = 0 := by rw [show S.getD 7 0 = Sha.be blk 7 from (isSched blk blk_lt).first 7 (by decide)]; kernel_rfl
theorem w8 : S.getD 8 0 = 0 := by rw [show S.getD 8 0 = Sha.be blk 8 from (isSched blk blk_lt).first 8 (by decide)]; kernel_rfl
theorem w9 : S.getD 9 0 = 0 := by rw [show S.getD 9 0 = Sha.be blk 9 from (isSched blk blk_lt).first 9 (by decide)]; kernel_rfl
theorem w10 : S.getD 10 0 = 0 := by rw [show S.getD 10 0 = Sha.be blk 10 from (isSched blk blk_lt).first 10 (by decide)]; kernel_rfl
theorem w11 : S.getD 11 0 = 0 := by rw [show S.getD 11 0 = Sha.be blk 11 from (isSched blk blk_lt).first 11 (by decide)]; kernel_rfl
theorem w12 : S.getD 12 0 = 0 := by rw [show S.getD 12 0 = Sha.be blk 12 from (isSched blk blk_lt).first 12 (by decide)]; kernel_rfl
theorem w13 : S.getD 13 0 = 0 := by rw [show S.getD 13 0 = Sha.be blk 13 from (isSched blk blk_lt).first 13 (by decide)]; kernel_rfl
theorem w14 : S.getD 14 0 = 0 := by rw [show S.getD 14 0 = Sha.be blk 14 from (isSched blk blk_lt).first 14 (by decide)]; kernel_rfl
theorem w15 : S.getD 15 0 = 24 := by rw [show S.getD 15 0 = Sha.be blk 15 from (isSched blk blk_lt).first 15 (by decide)]; kernel_rfl
theorem w16 : S.getD 16 0 = 1633837952 := by rw [nxt 16 (by decide) (by decide), w0, w1, w9, w14]; kernel_rfl
theorem w17 : S.getD 17 0 = 983040 := by rw [nxt 17 (by decide) (by decide), w1, w2, w10, w15]; kernel_rfl
theorem w18 : S.getD 18 0 = 2108187653 := by rw [nxt 18 (by decide) (by decide), w2, w3, w11, w16]; kernel_rfl
theorem w19 : S.getD 19 0 = 1610613702 := by rw [nxt 19 (by decide) (by decide), w3, w4, w12, w17]; kernel_rfl
theorem w20 : S.getD 20 0 = 1050508152 := by rw [nxt 20 (by decide) (by decide), w4, w5, w13, w18]; kernel_rfl
theorem w21 : S.getD 21 0 = 25426944 := by rw [nxt 21 (by decide) (by decide), w5, w6, w14, w19]; kernel_rfl
theorem w22 : S.getD 22 0 = 316456923 := by rw [nxt 22 (by decide) (by decide), w6, w7, w15, w20]; kernel_rfl
theorem w23 : S.getD 23 0 = 3806512014 := by rw [nxt 23 (by decide) (by decide), w7, w8, w16, w21]; kernel_rfl
theorem w24 : S.getD 24 0 = 3357629466 := by rw [nxt 24 (by decide) (by decide), w8, w9, w17, w22]; kernel_rfl
theorem w25 : S.getD 25 0 = 3073800610 := by rw [nxt 25 (by decide) (by decide), w9, w10, w18, w23]; kernel_rfl
theorem w26 : S.getD 26 0 = 3854317833 := by rw [nxt 26 (by decide) (by decide), w10, w11, w19, w24]; kernel_rfl
theorem w27 : S.getD 27 0 = 845560923 := by rw [nxt 27 (by decide) (by decide), w11, w12, w20, w25]; kernel_rfl
theorem w28 : S.getD 28 0 = 2636160359 := by rw [nxt 28 (by decide) (by decide), w12, w13, w21, w26]; kernel_rfl
theorem w29 : S.getD 29 0 = 3968280267 := by rw [nxt 29 (by decide) (by decide), w13, w14, w22, w27]; kernel_rfl
theorem w30 : S.getD 30 0 = 1881225380 := by rw [nxt 30 (by decide) (by decide), w14, w15, w23, w28]; kernel_rfl
theorem w31 : S.getD 31 0 = 3552024379 := by rw [nxt 31 (by decide) (by decide), w15, w16, w24, w29]; kernel_rfl
theorem w32 : S.getD 32 0 = 2482346367 := by rw [nxt 32 (by decide) (by decide), w16, w17, w25, w30]; kernel_rfl
theorem w33 : S.getD 33 0 = 996719219 := by rw [nxt 33 (by decide) (by decide), w17, w18, w26, w31]; kernel_rfl
theorem w34 : S.getD 34 0 = 2952069057 := by rw [nxt 34 (by decide) (by decide), w18, w19, w27, w32]; kernel_rfl
theorem w35 : S.getD 35 0 = 4043988066 := by rw [nxt 35 (by decide) (by decide), w19, w20, w28, w33]; kernel_rfl
theorem w36 : S.getD 36 0 = 176896406 := by rw [nxt 36 (by decide) (by decide), w20, w21, w29, w34]; kernel_rfl
theorem w37 : S.getD 37 0 = 1924104970 := by rw [nxt 37 (by decide) (by decide), w21, w22, w30, w35]; kernel_rfl
theorem w38 : S.getD 38 0 = 2483675966 := by rw [nxt 38 (by decide) (by decide), w22, w23, w31, w36]; kernel_rfl
theorem w39 : S.getD 39 0 = 610538786 := by rw [nxt 39 (by decide) (by decide), w23, w24, w32, w37]; kernel_rfl
theorem w40 : S.getD 40 0 = 2672279444 := by rw [nxt 40 (by decide) (by decide), w24, w25, w33, w38]; kernel_rfl
theorem w41 : S.getD 41 0 = 4037431130 := by rw [nxt 41 (by decide) (by decide), w25, w26, w34, w39]; kernel_rfl
theorem w42 : S.getD 42 0 = 1042573945 := by rw [nxt 42 (by decide) (by decide), w26, w27, w35, w40]; kernel_rfl
theorem w43 : S.getD 43 0 = 657669027 := by rw [nxt 43 (by decide) (by decide), w27, w28, w36, w41]; kernel_rfl
theorem w44 : S.getD 44 0 = 206005234 := by rw [nxt 44 (by decide) (by decide), w28, w29, w37, w42]; kernel_rfl
theorem w45 : S.getD 45 0 = 2215296807 := by rw [nxt 45 (by decide) (by decide), w29, w30, w38, w43]; kernel_rfl
theorem w46 : S.getD 46 0 = 2049510749 := by rw [nxt 46 (by decide) (by decide), w30, w31, w39, w44]; kernel_rfl
theorem w47 : S.getD 47 0 = 106709978 := by rw [nxt 47 (by decide) (by decide), w31, w32, w40, w45]; kernel_rfl
theorem w48 : S.getD 48 0 = 4215179723 := by rw [nxt 48 (by decide) (by decide), w32, w33, w41, w46]; kernel_rfl
theorem w49 : S.getD 49 0 = 3430291419 := by rw [nxt 49 (by decide) (by decide), w33, w34, w42, w47]; kernel_rfl
theorem w50 : S.getD 50 0 = 3118885940 := by rw [nxt 50 (by decide) (by decide), w34, w35, w43, w48]; kernel_rfl
theorem w51 : S.getD 51 0 = 2845390439 := by rw [nxt 51 (by decide) (by decide), w35, w36, w44, w49]; kernel_rfl
theorem w52 : S.getD 52 0 = 2226839261 := by rw [nxt 52 (by decide) (by decide), w36, w37, w45, w50]; kernel_rfl
theorem w53 : S.getD 53 0 = 3256115900 := by rw [nxt 53 (by decide) (by decide), w37, w38, w46, w51]; kernel_rfl
theorem w54 : S.getD 54 0 = 344409900 := by rw [nxt 54 (by decide) (by decide), w38, w39, w47, w52]; kernel_rfl
theorem w55 : S.getD 55 0 = 2987358873 := by rw [nxt 55 (by decide) (by decide), w39, w40, w48, w53]; kernel_rfl
theorem w56 : S.getD 56 0 = 4015503821 := by rw [nxt 56 (by decide) (by decide), w40, w41, w49, w54]; kernel_rfl
theorem w57 : S.getD 57 0 = 3957764664 := by rw [nxt 57 (by decide) (by decide), w41, w42, w50, w55]; kernel_rfl
theorem w58 : S.getD 58 0 = 2682456414 := by rw [nxt 58 (by decide) (by decide), w42, w43, w51, w56]; kernel_rfl
theorem w59 : S.getD 59 0 = 2025622859 := by rw [nxt 59 (by decide) (by decide), w43, w44, w52, w57]; kernel_rfl
theorem w60 : S.getD 60 0 = 2755645205 := by rw [nxt 60 (by decide) (by decide), w44, w45, w53, w58]; kernel_rfl
theorem w61 : S.getD 61 0 = 1720397816 := by rw [nxt 61 (by decide) (by decide), w45, w46, w54, w59]; kernel_rfl
theorem w62 : S.getD 62 0 = 4004225740 := by rw [nxt 62 (by decide) (by decide), w46, w47, w55, w60]; kernel_rfl
theorem w63 : S.getD 63 0 = 313650667 := by rw [nxt 63 (by decide) (by decide), w47, w48, w56, w61]; kernel_rfl
def R (n : Nat) : Sha.St := Sha.rounds S Sha.iv n
theorem nx (n : Nat) : R (n + 1) = (R n).step (Sha.K.getD n 0) (S.getD n 0) := rfl
theorem r0 : R 0 = ⟨1779033703, 3144134277, 1013904242, 2773480762, 1359893119, 2600822924, 528734635, 1541459225⟩ := rfl
theorem r1 : R 1 = ⟨1567288269, 1779033703, 3144134277, 1013904242, 4197074466, 1359893119, 2600822924, 528734635⟩ := by rw [nx 0, r0, w0]; kernel_rfl
theorem r2 : R 2 = ⟨1516951981, 1567288269, 1779033703, 3144134277, 2026797449, 4197074466, 1359893119, 2600822924⟩ := by rw [nx 1, r1, w1]; kernel_rfl
theorem r3 : R 3 = ⟨3368241063, 1516951981, 1567288269, 1779033703, 4180228587, 2026797449, 4197074466, 1359893119⟩ := by rw [nx 2, r2, w2]; kernel_rfl
theorem r4 : R 4 = ⟨3578852966, 3368241063, 1516951981, 1567288269, 618661968, 4180228587, 2026797449, 4197074466⟩ := by rw [nx 3, r3, w3]; kernel_rfl
theorem r5 : R 5 = ⟨71342698, 3578852966, 3368241063, 1516951981, 1135452741, 618661968, 4180228587, 2026797449⟩ := by rw [nx 4, r4, w4]; kernel_rfl
theorem r6 : R 6 = ⟨725748213, 71342698, 3578852966, 3368241063, 1900175533, 1135452741, 618661968, 4180228587⟩ := by rw [nx 5, r5, w5]; kernel_rfl
theorem r7 : R 7 = ⟨3842179968, 725748213, 71342698, 3578852966, 2603066369, 1900175533, 1135452741, 618661968⟩ := by rw [nx 6, r6, w6]; kernel_rfl
theorem r8 : R 8 = ⟨2241887071, 3842179968, 725748213, 71342698, 207977081, 2603066369, 1900175533, 1135452741⟩ := by rw [nx 7, r7, w7]; kernel_rfl
theorem r9 : R 9 = ⟨2382687417, 2241887071, 3842179968, 725748213, 852110732, 207977081, 2603066369, 1900175533⟩ := by rw [nx 8, r8, w8]; kernel_rfl
theorem r10 : R 10 = ⟨2357671019, 2382687417, 2241887071, 3842179968, 482944406, 852110732, 207977081, 2603066369⟩ := by rw [nx 9, r9, w9]; kernel_rfl
theorem r11 : R 11 = ⟨1201185780, 2357671019, 2382687417, 2241887071, 1131095016, 482944406, 852110732, 207977081⟩ := by rw [nx 10, r10, w10]; kernel_rfl
theorem r12 : R 12 = ⟨4146054569, 1201185780, 2357671019, 2382687417, 2171590377, 1131095016, 482944406, 852110732⟩ := by rw [nx 11, r11, w11]; kernel_rfl
theorem r13 : R 13 = ⟨2274437520, 4146054569, 1201185780, 2357671019, 509051416, 2171590377, 1131095016, 482944406⟩ := by rw [nx 12, r12, w12]; kernel_rfl
theorem r14 : R 14 = ⟨3643992854, 2274437520, 4146054569, 1201185780, 1952073950, 509051416, 2171590377, 1131095016⟩ := by rw [nx 13, r13, w13]; kernel_rfl
theorem r15 : R 15 = ⟨3227803614, 3643992854, 2274437520, 4146054569, 194179596, 1952073950, 509051416, 2171590377⟩ := by rw [nx 14, r14, w14]; kernel_rfl
theorem r16 : R 16 = ⟨2969183118, 3227803614, 3643992854, 2274437520, 123276749, 194179596, 1952073950, 509051416⟩ := by rw [nx 15, r15, w15]; kernel_rfl
theorem r17 : R 17 = ⟨567974555, 2969183118, 3227803614, 3643992854, 2150900380, 123276749, 194179596, 1952073950⟩ := by rw [nx 16, r16, w16]; kernel_rfl
theorem r18 : R 18 = ⟨3271285201, 567974555, 2969183118, 3227803614, 2221859924, 2150900380, 123276749, 194179596⟩ := by rw [nx 17, r17, w17]; kernel_rfl
theorem r19 : R 19 = ⟨4269243327, 3271285201, 567974555, 2969183118, 3431569761, 2221859924, 2150900380, 123276749⟩ := by rw [nx 18, r18, w18]; kernel_rfl
theorem r20 : R 20 = ⟨3790736435, 4269243327, 3271285201, 567974555, 2959311225, 3431569761, 2221859924, 2150900380⟩ := by rw [nx 19, r19, w19]; kernel_rfl
theorem r21 : R 21 = ⟨2647034723, 3790736435, 4269243327, 3271285201, 2329577776, 2959311225, 3431569761, 2221859924⟩ := by rw [nx 20, r20, w20]; kernel_rfl
theorem r22 : R 22 = ⟨3261099373, 2647034723, 3790736435, 4269243327, 3777329520, 2329577776, 2959311225, 3431569761⟩ := by rw [nx 21, r21, w21]; kernel_rfl
theorem r23 : R 23 = ⟨2812502591, 3261099373, 2647034723, 3790736435, 1240797514, 3777329520, 2329577776, 2959311225⟩ := by rw [nx 22, r22, w22]; kernel_rfl
theorem r24 : R 24 = ⟨3319086477, 2812502591, 3261099373, 2647034723, 2856829767, 1240797514, 3777329520, 2329577776⟩ := by rw [nx 23, r23, w23]; kernel_rfl
theorem r25 : R 25 = ⟨472655928, 3319086477, 2812502591, 3261099373, 673443729, 2856829767, 1240797514, 3777329520⟩ := by rw [nx 24, r24, w24]; kernel_rfl
theorem r26 : R 26 = ⟨3454534525, 472655928, 3319086477, 2812502591, 339230094, 673443729, 2856829767, 1240797514⟩ := by rw [nx 25, r25, w25]; kernel_rfl
theorem r27 : R 27 = ⟨3056518332, 3454534525, 472655928, 3319086477, 3343672598, 339230094, 673443729, 2856829767⟩ := by rw [nx 26, r26, w26]; kernel_rfl
theorem r28 : R 28 = ⟨2010346792, 3056518332, 3454534525, 472655928, 3992961016, 3343672598, 339230094, 673443729⟩ := by rw [nx 27, r27, w27]; kernel_rfl
theorem r29 : R 29 = ⟨909411017, 2010346792, 3056518332, 3454534525, 1628611511, 3992961016, 3343672598, 339230094⟩ := by rw [nx 28, r28, w28]; kernel_rfl
theorem r30 : R 30 = ⟨2684750640, 909411017, 2010346792, 3056518332, 2917635127, 1628611511, 3992961016, 3343672598⟩ := by rw [nx 29, r29, w29]; kernel_rfl
theorem r31 : R 31 = ⟨3935906338, 2684750640, 909411017, 2010346792, 17410874, 2917635127, 1628611511, 3992961016⟩ := by rw [nx 30, r30, w30]; kernel_rfl
theorem r32 : R 32 = ⟨1941126133, 3935906338, 2684750640, 909411017, 3126399250, 17410874, 2917635127, 1628611511⟩ := by rw [nx 31, r31, w31]; kernel_rfl
theorem r33 : R 33 = ⟨2564891911, 1941126133, 3935906338, 2684750640, 2631529974, 3126399250, 17410874, 2917635127⟩ := by rw [nx 32, r32, w32]; kernel_rfl
theorem r34 : R 34 = ⟨4267724277, 2564891911, 1941126133, 3935906338, 1495571923, 2631529974, 3126399250, 17410874⟩ := by rw [nx 33, r33, w33]; kernel_rfl
theorem r35 : R 35 = ⟨2846323596, 4267724277, 2564891911, 1941126133, 140458035, 1495571923, 2631529974, 3126399250⟩ := by rw [nx 34, r34, w34]; kernel_rfl
theorem r36 : R 36 = ⟨1705037796, 2846323596, 4267724277, 2564891911, 4105175766, 140458035, 1495571923, 2631529974⟩ := by rw [nx 35, r35, w35]; kernel_rfl
theorem r37 : R 37 = ⟨1101421745, 1705037796, 2846323596, 4267724277, 124953195, 4105175766, 140458035, 1495571923⟩ := by rw [nx 36, r36, w36]; kernel_rfl
theorem r38 : R 38 = ⟨887035396, 1101421745, 1705037796, 2846323596, 2768741693, 124953195, 4105175766, 140458035⟩ := by rw [nx 37, r37, w37]; kernel_rfl
theorem r39 : R 39 = ⟨1841658506, 887035396, 1101421745, 1705037796, 4034403272, 2768741693, 124953195, 4105175766⟩ := by rw [nx 38, r38, w38]; kernel_rfl
theorem r40 : R 40 = ⟨2045405306, 1841658506, 887035396, 1101421745, 519815328, 4034403272, 2768741693, 124953195⟩ := by rw [nx 39, r39, w39]; kernel_rfl
theorem r41 : R 41 = ⟨3597076326, 2045405306, 1841658506, 887035396, 641019235, 519815328, 4034403272, 2768741693⟩ := by rw [nx 40, r40, w40]; kernel_rfl
theorem r42 : R 42 = ⟨3745932591, 3597076326, 2045405306, 1841658506, 2206934801, 641019235, 519815328, 4034403272⟩ := by rw [nx 41, r41, w41]; kernel_rfl
theorem r43 : R 43 = ⟨397020670, 3745932591, 3597076326, 2045405306, 3737995029, 2206934801, 641019235, 519815328⟩ := by rw [nx 42, r42, w42]; kernel_rfl
theorem r44 : R 44 = ⟨2638983059, 397020670, 3745932591, 3597076326, 4255271982, 3737995029, 2206934801, 641019235⟩ := by rw [nx 43, r43, w43]; kernel_rfl
theorem r45 : R 45 = ⟨643991573, 2638983059, 397020670, 3745932591, 2819559920, 4255271982, 3737995029, 2206934801⟩ := by rw [nx 44, r44, w44]; kernel_rfl
theorem r46 : R 46 = ⟨1923828625, 643991573, 2638983059, 397020670, 3077922209, 2819559920, 4255271982, 3737995029⟩ := by rw [nx 45, r45, w45]; kernel_rfl
theorem r47 : R 47 = ⟨2706117808, 1923828625, 643991573, 2638983059, 3581645993, 3077922209, 2819559920, 4255271982⟩ := by rw [nx 46, r46, w46]; kernel_rfl
theorem r48 : R 48 = ⟨1098003085, 2706117808, 1923828625, 643991573, 4274981830, 3581645993, 3077922209, 2819559920⟩ := by rw [nx 47, r47, w47]; kernel_rfl
theorem r49 : R 49 = ⟨91585771, 1098003085, 2706117808, 1923828625, 3178315832, 4274981830, 3581645993, 3077922209⟩ := by rw [nx 48, r48, w48]; kernel_rfl
theorem r50 : R 50 = ⟨4045142696, 91585771, 1098003085, 2706117808, 1851537676, 3178315832, 4274981830, 3581645993⟩ := by rw [nx 49, r49, w49]; kernel_rfl
theorem r51 : R 51 = ⟨2047150241, 4045142696, 91585771, 1098003085, 1391578359, 1851537676, 3178315832, 4274981830⟩ := by rw [nx 50, r50, w50]; kernel_rfl
theorem r52 : R 52 = ⟨2288941602, 2047150241, 4045142696, 91585771, 1227037726, 1391578359, 1851537676, 3178315832⟩ := by rw [nx 51, r51, w51]; kernel_rfl
theorem r53 : R 53 = ⟨270520975, 2288941602, 2047150241, 4045142696, 1386118400, 1227037726, 1391578359, 1851537676⟩ := by rw [nx 52, r52, w52]; kernel_rfl
theorem r54 : R 54 = ⟨4117770203, 270520975, 2288941602, 2047150241, 2672265155, 1386118400, 1227037726, 1391578359⟩ := by rw [nx 53, r53, w53]; kernel_rfl
theorem r55 : R 55 = ⟨1053056219, 4117770203, 270520975, 2288941602, 3842906959, 2672265155, 1386118400, 1227037726⟩ := by rw [nx 54, r54, w54]; kernel_rfl
theorem r56 : R 56 = ⟨952932627, 1053056219, 4117770203, 270520975, 1422599787, 3842906959, 2672265155, 1386118400⟩ := by rw [nx 55, r55, w55]; kernel_rfl
theorem r57 : R 57 = ⟨4241590395, 952932627, 1053056219, 4117770203, 2606665836, 1422599787, 3842906959, 2672265155⟩ := by rw [nx 56, r56, w56]; kernel_rfl
theorem r58 : R 58 = ⟨3227702383, 4241590395, 952932627, 1053056219, 2118385806, 2606665836, 1422599787, 3842906959⟩ := by rw [nx 57, r57, w57]; kernel_rfl
theorem r59 : R 59 = ⟨4290184306, 3227702383, 4241590395, 952932627, 1837350854, 2118385806, 2606665836, 1422599787⟩ := by rw [nx 58, r58, w58]; kernel_rfl
theorem r60 : R 60 = ⟨3064893439, 4290184306, 3227702383, 4241590395, 2988158269, 1837350854, 2118385806, 2606665836⟩ := by rw [nx 59, r59, w59]; kernel_rfl
theorem r61 : R 61 = ⟨3093179625, 3064893439, 4290184306, 3227702383, 2518632596, 2988158269, 1837350854, 2118385806⟩ := by rw [nx 60, r60, w60]; kernel_rfl
theorem r62 : R 62 = ⟨80891244, 3093179625, 3064893439, 4290184306, 2492278198, 2518632596, 2988158269, 1837350854⟩ := by rw [nx 61, r61, w61]; kernel_rfl
theorem r63 : R 63 = ⟨3550093669, 80891244, 3093179625, 3064893439, 4212265488, 2492278198, 2518632596, 2988158269⟩ := by rw [nx 62, r62, w62]; kernel_rfl
theorem r64 : R 64 = ⟨1349398616, 3550093669, 80891244, 3093179625, 1593118500, 4212265488, 2492278198, 2518632596⟩ := by rw [nx 63, r63, w63]; kernel_rfl
theorem mixed : (Sha.mix Sha.iv blk).list = [3128432319, 2399260650, 1094795486, 1571693091, 2953011619, 2518121116, 3021012833, 4060091821] := by
  show ((R 64).add Sha.iv).list = _
  rw [r64]; kernel_rfl
theorem digest_abc : Sha.digest [97, 98, 99] = [186, 120, 22, 191, 143, 1, 207, 234, 65, 65, 64, 222, 93, 174, 34, 35, 176, 3, 97, 163, 150, 23, 122, 156, 180, 16, 255, 97, 242, 0, 21, 173] := by
  show (Sha.mix Sha.iv blk).list.flatMap Sha.word4 = _
  rw [mixed]; kernel_rfl
theorem hex_abc : str (hex (Sha.digest [97, 98, 99])) = ⟨#[98, 97, 55, 56, 49, 54, 98, 102, 56, 102, 48, 49, 99, 102, 101, 97, 52, 49, 52, 49, 52, 48, 100, 101, 53, 100, 97, 101, 50, 50, 50, 51, 98, 48, 48, 51, 54, 49, 97, 51, 57, 54, 49, 55, 55, 97, 57, 99, 98, 52, 49, 48, 102, 102, 54, 49, 102, 50, 48, 48, 49, 53, 97, 100]⟩ := by
  rw [digest_abc]; kernel_rfl
end Go.Proofs.Ytinndlofnpkfhaa.Known
