/-
  The document's head of a frame.
-/
import Derived.Test.YtinndlofnpkfhaaHd
import Derived.Test.YtinndlofnpkfhaaRef
import Derived.Test.YtinndlofnpkfhaaSumRef
import Derived.BigQuiet
import Derived.Deep.QuietTactic
import Derived.OwnWalk
namespace Go.Proofs.Ytinndlofnpkfhaa
open Go.RowKit

set_option maxRecDepth 8000 in
set_option maxHeartbeats 2000000 in
theorem rhead_any (A : Option Addr) (n c : Nat) (b : List Nat) (a : Nat) (w : World) (hb : RB w A n b) (hc : n ≤ c) (hn : n ≤ 500000) (ha : a ≤ n) :
    Calls Try.prog 58 #[.slice A n c, .int .i64 (a : Int)] w (Told w (hd (b.drop a))) := by
  have hlen := hb.1
  by_cases hs : n < a + 44
  · have hd0 := hd_none_short (b := b.drop a) (by rw [List.length_drop]; omega)
    have d1 : decide ((n : Int) < (a : Int) + 44) = true := by simp; omega
    rw [hd0]
    clear hb hlen hd0
    go_enter Try.func58, Try.ntmps58
    go_wp2
    go_ret3
    exact ⟨0, 0, false, rfl, (fun _ _ h => by cases h), fun _ => rfl, Below.refl _ _⟩
  · have d1 : decide ((n : Int) < (a : Int) + 44) = false := by simp; omega
    obtain ⟨v0, v1, v2, v3, R, hB⟩ : ∃ v0 v1 v2 v3 R, b.drop a = v0 :: v1 :: v2 :: v3 :: R := by
      have hl : (b.drop a).length = n - a := by rw [List.length_drop, hlen]
      rcases hq : b.drop a with _ | ⟨v0, _ | ⟨v1, _ | ⟨v2, _ | ⟨v3, R⟩⟩⟩⟩ <;> rw [hq] at hl <;> simp at hl
      · omega
      · omega
      · omega
      · omega
      · exact ⟨v0, v1, v2, v3, R, rfl⟩
    have hget : ∀ j, b[a + j]? = (b.drop a)[j]? := fun j => by rw [List.getElem?_drop]
    have g0 : b[a]? = some v0 := by have := hget 0; rw [hB] at this; exact this
    have g1 : b[a + 1]? = some v1 := by have := hget 1; rw [hB] at this; exact this
    have g2 : b[a + 2]? = some v2 := by have := hget 2; rw [hB] at this; exact this
    have g3 : b[a + 3]? = some v3 := by have := hget 3; rw [hB] at this; exact this
    obtain ⟨h1, h2, h3⟩ := id hb
    obtain ⟨ad, rfl, hcell⟩ := h3 (by omega)
    have c0 := hcell _ _ g0
    have c1 := hcell _ _ g1
    have c2 := hcell _ _ g2
    have c3 := hcell _ _ g3
    have l0 := h2 v0 (List.mem_of_getElem? g0)
    have l1 := h2 v1 (List.mem_of_getElem? g1)
    have l2 := h2 v2 (List.mem_of_getElem? g2)
    have l3 := h2 v3 (List.mem_of_getElem? g3)
    obtain ⟨a1, e1⟩ : ∃ p, p = a + 1 := ⟨_, rfl⟩
    obtain ⟨a2, e2⟩ : ∃ p, p = a + 2 := ⟨_, rfl⟩
    obtain ⟨a3, e3⟩ : ∃ p, p = a + 3 := ⟨_, rfl⟩
    rw [← e1] at c1
    rw [← e2] at c2
    rw [← e3] at c3
    have x1 : (a : Int) + 1 = (a1 : Int) := by omega
    have x2 : (a : Int) + 2 = (a2 : Int) := by omega
    have x3 : (a : Int) + 3 = (a3 : Int) := by omega
    have x3' : IntKind.i64.wrap (a3 : Int) = (a3 : Int) := by rw [IntKind.wrap_i64]; omega
    have r0 : (a : Int) < (n : Int) := by omega
    have r1 : (a1 : Int) < (n : Int) := by omega
    have r2 : (a2 : Int) < (n : Int) := by omega
    have r3 : (a3 : Int) < (n : Int) := by omega
    by_cases q0 : v0 = 99
    · by_cases q1 : v1 = 117
      · by_cases q2 : v2 = 98
        · have n0 : ((v0 : Int) != 99) = false := by simp; omega
          have n1 : ((v1 : Int) != 117) = false := by simp; omega
          have n2 : ((v2 : Int) != 98) = false := by simp; omega
          obtain ⟨a4, e4⟩ : ∃ p, p = a + 4 := ⟨_, rfl⟩
          obtain ⟨a8, e8⟩ : ∃ p, p = a + 8 := ⟨_, rfl⟩
          obtain ⟨a12, e12⟩ : ∃ p, p = a + 12 := ⟨_, rfl⟩
          have x4 : (a : Int) + 4 = (a4 : Int) := by omega
          have x8 : (a : Int) + 8 = (a8 : Int) := by omega
          have x12 : (a : Int) + 12 = (a12 : Int) := by omega
          have x8' : IntKind.i64.wrap (a8 : Int) = (a8 : Int) := by rw [IntKind.wrap_i64]; omega
          have x12' : IntKind.i64.wrap (a12 : Int) = (a12 : Int) := by rw [IntKind.wrap_i64]; omega
          have s48 : ∀ w', (Instr.slice 22 (.slice (some ad) n c) (some (.int .i64 (a4 : Int))) (some (.int .i64 (a8 : Int))) none).run Try.prog w' = .ok (.slice (cut (some ad) c a4) 4 (c - a4)) w' := by
            have := slice_lh (some ad) n c a4 a8 (by omega) (by omega)
            rwa [show a8 - a4 = 4 by omega] at this
          have s812 : ∀ w', (Instr.slice 22 (.slice (some ad) n c) (some (.int .i64 (a8 : Int))) (some (.int .i64 (a12 : Int))) none).run Try.prog w' = .ok (.slice (cut (some ad) c a8) 4 (c - a8)) w' := by
            have := slice_lh (some ad) n c a8 a12 (by omega) (by omega)
            rwa [show a12 - a8 = 4 by omega] at this
          have s08 : ∀ w', (Instr.slice 22 (.slice (some ad) n c) (some (.int .i64 (a : Int))) (some (.int .i64 (a8 : Int))) none).run Try.prog w' = .ok (.slice (cut (some ad) c a) 8 (c - a)) w' := by
            have := slice_lh (some ad) n c a a8 (by omega) (by omega)
            rwa [show a8 - a = 8 by omega] at this
          have m48 := hb.mid (lo := a4) (hi := a8) (cap := c) (by omega) (by omega) hc
          have m812 := hb.mid (lo := a8) (hi := a12) (cap := c) (by omega) (by omega) hc
          have m08 := hb.mid (lo := a) (hi := a8) (cap := c) (by omega) (by omega) hc
          rw [show a8 - a4 = 4 by omega] at m48
          rw [show a12 - a8 = 4 by omega] at m812
          rw [show a8 - a = 8 by omega] at m08
          have f48 : (b.drop a4).take 4 = ((b.drop a).drop 4).take 4 := by rw [List.drop_drop, ← e4]
          have f812 : (b.drop a8).take 4 = ((b.drop a).drop 8).take 4 := by rw [List.drop_drop, ← e8]
          rw [f48] at m48
          rw [f812] at m812
          obtain ⟨nn, hnn⟩ : ∃ k, k = num (((b.drop a).drop 4).take 4) := ⟨_, rfl⟩
          obtain ⟨cr, hcr⟩ : ∃ k, k = num (((b.drop a).drop 8).take 4) := ⟨_, rfl⟩
          obtain ⟨q, hq⟩ : ∃ q, q = Crc.crc ((b.drop a).take 8) := ⟨_, rfl⟩
          have lnn : nn < 4294967296 := by rw [hnn]; exact num_lt_of (n := 4) m48.2.1 (by rw [List.length_take]; omega)
          have lcr : cr < 4294967296 := by rw [hcr]; exact num_lt_of (n := 4) m812.2.1 (by rw [List.length_take]; omega)
          have lq : q < 4294967296 := by rw [hq]; exact Crc.crc_lt _ m08.2.1
          have hhd : hd (b.drop a) = if 1 ≤ v3 ∧ v3 ≤ 3 ∧ nn ≤ 30000 ∧ cr = q then some (v3, nn) else none := by
            have t1 : (b.drop a).take 3 = [99, 117, 98] := by rw [hB, q0, q1, q2]; rfl
            have t2 : num (((b.drop a).drop 3).take 1) = v3 := by rw [hB]; simp [num]
            have t3 : 44 ≤ (b.drop a).length := by rw [List.length_drop]; omega
            unfold hd
            rw [t2, ← hnn, ← hcr, ← hq]
            by_cases hh : 1 ≤ v3 ∧ v3 ≤ 3 ∧ nn ≤ 30000 ∧ cr = q
            · rw [if_pos hh, if_pos ⟨t3, t1, hh.1, hh.2.1, hh.2.2.1, hh.2.2.2⟩]
            · rw [if_neg hh, if_neg (fun h2 => hh ⟨h2.2.2.1, h2.2.2.2.1, h2.2.2.2.2.1, h2.2.2.2.2.2⟩)]
          have HHD := Lib.hid hhd
          have M48 := Lib.hid m48
          have hnumq : ∀ i : Nat, Calls Try.prog 23 #[.slice (cut (some ad) c a8) 4 (c - a8)] (w.drewN i) fun e w' => e = .returned (.int .u64 (cr : Int)) ∧ w' = w.drewN i := fun i =>
            (rnumber _ 4 _ _ (w.drewN i) m812 (by decide)).mono fun _ _ ⟨h, k⟩ => ⟨by rw [h, ← hcr], k.symm⟩
          have hcrcq : ∀ i : Nat, Calls Try.prog 18 #[.slice (cut (some ad) c a) 8 (c - a)] (w.drewN i) fun e w' => e = .returned (.int .u32 (q : Int)) ∧ w' = w.drewN i := fun i =>
            (rcrc_any _ 8 _ _ (w.drewN i) m08 (by omega)).mono fun _ _ ⟨h, k⟩ => ⟨by rw [h, ← hq], k.symm⟩
          have HNN := Lib.hid hnn
          clear hb h1 h2 h3 hcell g0 g1 g2 g3 hget hB l0 l1 l2 e1 e2 e3 e4 e8 e12 q0 q1 q2 m48 m812 m08 f48 f812 hnn hcr hq hhd hlen hs
          go_enter Try.func58, Try.ntmps58
          go_wp2_with fail
          refine (rnumber _ 4 _ _ w M48.out (by decide)).mono ?_
          rintro e w' ⟨rfl, rfl⟩
          rw [← HNN.out]
          have wcr : IntKind.u64.wrap (q : Int) = (q : Int) := by rw [IntKind.wrap_u64]; omega
          by_cases k1 : v3 < 1
          · have d3 : decide ((v3 : Int) < 1) = true := by simp; omega
            go_wp2_with fail
            go_quiet (fail)
            go_wp2
            go_ret3
            refine ⟨0, 0, false, rfl, fun k m' h => ?_, fun _ => rfl, Below.dn (Below.refl _ _) nq⟩
            rw [HHD.out, if_neg (by omega)] at h; cases h
          · have d3 : decide ((v3 : Int) < 1) = false := by simp; omega
            by_cases k3 : 3 < v3
            · have d4 : decide (3 < (v3 : Int)) = true := by simp; omega
              go_wp2_with fail
              go_quiet (fail)
              go_wp2
              go_ret3
              refine ⟨0, 0, false, rfl, fun k m' h => ?_, fun _ => rfl, Below.dn (Below.refl _ _) nq⟩
              rw [HHD.out, if_neg (by omega)] at h; cases h
            · have d4 : decide (3 < (v3 : Int)) = false := by simp; omega
              by_cases kn : 30000 < nn
              · have d5 : decide (30000 < (nn : Int)) = true := by simp; omega
                go_wp2_with fail
                go_quiet (fail)
                go_wp2
                go_ret3
                refine ⟨0, 0, false, rfl, fun k m' h => ?_, fun _ => rfl, Below.dn (Below.refl _ _) nq⟩
                rw [HHD.out, if_neg (by omega)] at h; cases h
              · have d5 : decide (30000 < (nn : Int)) = false := by simp; omega
                by_cases kc : cr = q
                · have d6 : ((cr : Int) != (q : Int)) = false := by simp; omega
                  have HKC := Lib.hid kc
                  clear kc
                  go_wp2_with fail
                  go_quiet ((first | (go_at_call 23; exact Calls.quiet_of_same (hnumq _)) | (go_at_call 18; exact Calls.quiet_of_same (hcrcq _))))
                  go_wp2
                  go_ret3
                  refine ⟨v3, nn, true, rfl, fun k m' h => ?_, fun h => ?_, Below.dn (Below.refl _ _) nq⟩
                  · rw [HHD.out, if_pos ⟨by omega, by omega, by omega, HKC.out⟩] at h
                    cases h
                    exact ⟨rfl, rfl, rfl⟩
                  · rw [HHD.out, if_pos ⟨by omega, by omega, by omega, HKC.out⟩] at h; cases h
                · have d6 : ((cr : Int) != (q : Int)) = true := by simp; omega
                  go_wp2_with fail
                  go_quiet ((first | (go_at_call 23; exact Calls.quiet_of_same (hnumq _)) | (go_at_call 18; exact Calls.quiet_of_same (hcrcq _))))
                  go_wp2
                  go_ret3
                  refine ⟨0, 0, false, rfl, fun k m' h => ?_, fun _ => rfl, Below.dn (Below.refl _ _) nq⟩
                  rw [HHD.out, if_neg (by omega)] at h; cases h
        · have n0 : ((v0 : Int) != 99) = false := by simp; omega
          have n1 : ((v1 : Int) != 117) = false := by simp; omega
          have n2 : ((v2 : Int) != 98) = true := by simp; omega
          have hd0 := hd_none_cub (b := b.drop a) (by rw [hB]; simp; omega)
          rw [hd0]
          clear hb h1 h2 h3 hcell g0 g1 g2 g3 hget hB hd0 e1 e2 e3 hlen
          go_enter Try.func58, Try.ntmps58
          go_wp2
          go_ret3
          exact ⟨0, 0, false, rfl, (fun _ _ h => by cases h), fun _ => rfl, Below.refl _ _⟩
      · have n0 : ((v0 : Int) != 99) = false := by simp; omega
        have n1 : ((v1 : Int) != 117) = true := by simp; omega
        have hd0 := hd_none_cub (b := b.drop a) (by rw [hB]; simp; omega)
        rw [hd0]
        clear hb h1 h2 h3 hcell g0 g1 g2 g3 hget hB hd0 e1 e2 e3 hlen
        go_enter Try.func58, Try.ntmps58
        go_wp2
        go_ret3
        exact ⟨0, 0, false, rfl, (fun _ _ h => by cases h), fun _ => rfl, Below.refl _ _⟩
    · skip
      have n0 : ((v0 : Int) != 99) = true := by simp; omega
      have hd0 := hd_none_cub (b := b.drop a) (by rw [hB]; simp; omega)
      rw [hd0]
      clear hb h1 h2 h3 hcell g0 g1 g2 g3 hget hB hd0 e1 e2 e3 hlen
      go_enter Try.func58, Try.ntmps58
      go_wp2
      go_ret3
      exact ⟨0, 0, false, rfl, (fun _ _ h => by cases h), fun _ => rfl, Below.refl _ _⟩
end Go.Proofs.Ytinndlofnpkfhaa
