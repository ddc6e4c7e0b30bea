/-
  The walk of sum.padded.
-/
import Derived.Test.YtinndlofnpkfhaaOwn
import Derived.Test.YtinndlofnpkfhaaSha
import Derived.Test.YtinndlofnpkfhaaArr
namespace Go.Proofs.Ytinndlofnpkfhaa
open Go.RowKit

def lenV : Value → Nat
  | .slice _ m _ => m
  | _ => 0

theorem below_app {B : Nat} {w0 w w' : World} {A : Option Addr} {n c : Nat} {l : List Nat} (hB : Below B w0 w) (hBs : B ≤ w.heap.size) (hO : Own w B A n c l) {o : Obj} (ho : Only (fun k => blk A = some k) (w.alloc o) w') : Below B w0 w' :=
  (hB.alloc hBs o).trans (ho.below (by simp; omega) (fun i hi e => by have := (hO.lt i e).1; omega))

set_option maxHeartbeats 1000000 in
theorem padded_any (A : Option Addr) (n c : Nat) (b : List Nat) (w : World) (hb : RB w A n b) (hn : n ≤ 100000) :
    Calls Try.prog 53 #[.slice A n c] w fun e w' => ∃ A' m c', e = .returned (.slice A' m c') ∧ Own w' w.heap.size A' m c' (Sha.padded b) ∧ Below w.heap.size w w' := by
  have hlen := hb.1
  obtain ⟨i0, hi, hz0, hz1, hz2⟩ := info_parts Try.info5
  obtain ⟨w1, hmk, hown, hgrow⟩ := run_makeSlice_owned (P := Try.prog) (w := w) w.heap.size 22 5 i0 (.int .u8 0) 1 Try.underlying22 hi hz0 hz1 .i64 .i64 (n + 128) (by omega) (by rw [hz2]; omega) (by unfold maxLen; omega) (Nat.le_refl _)
  have hmk' : (Instr.makeSlice 22 (.int .i64 0) (.int .i64 ((n : Int) + 128))).run Try.prog w = .ok (.slice (some ⟨w.heap.size, 0, none⟩) 0 (n + 128)) w1 := hmk
  have hO1 : Own w1 w.heap.size (some ⟨w.heap.size, 0, none⟩) 0 (n + 128) [] := ⟨rfl, by simp, hown⟩
  have hB1 : Below w.heap.size w w1 := (Only.of_grown (S := fun _ => False) hgrow (fun k hk => by cases hk)).none_ (fun _ _ h => h)
  have hr1 := hb.below hB1
  clear hmk hown hgrow hi hz0 hz1 hz2 i0
  go_enter Try.func53, Try.ntmps53
  go_wp2_with (first
    | (at_builtin; refine wpList_append_rb rfl (.tmp 9) (.tmp 10) rfl rfl rfl hO1 hr1 (by omega) hB1.size ?_; intro A2 c2 w2 hO2 ho2 _; simp only [Nat.zero_add, List.nil_append] at hO2; rw [Nat.zero_add]; have hB2 := ho2.below hB1.size (fun i hi e => by simp [blk] at e; omega))
    | (at_builtin; refine wpList_append_rb rfl (.tmp 11) (.tmp 12) rfl rfl rfl (hO2.alloc (.cells #[.int .u8 128] 5)) (RB.new w2 #[.int .u8 128] 5 (0, 0) [128] rfl (by decide)) (by simp; omega) (by have := hB1.size; have := hB2.size; simp; omega) ?_; intro A3 c3 w3 hO3 ho3 _; have hO3l := (hO2.alloc (.cells #[.int .u8 128] 5)).lt))
  have hB3 : Below w.heap.size w w3 := below_app (hB1.trans hB2) (by have := hB1.size; have := hB2.size; omega) hO2 ho3
  obtain ⟨z, hz⟩ : ∃ z, z = Sha.zeros n := ⟨_, rfl⟩
  have hz1 : z = (119 - n % 64) % 64 := hz
  have HZ := Lib.hid hz
  clear hz
  clear hO1 hr1 hmk' hB1 ho2 hO2 hB2 ho3 hO3l
  go_loopw [3] (fun v wr => ∃ (A' : Option Addr) (c' j : Nat), j ≤ z ∧ v = .slice A' (n + 1 + j) c' ∧ Own wr w.heap.size A' (n + 1 + j) c' (b ++ [128] ++ List.replicate j 0) ∧ Below w.heap.size w wr) (fun v _ => n + 1 + z - lenV v)
  case atStart => exact ⟨A3, c3, 0, Nat.zero_le _, rfl, by simpa using hO3, hB3⟩
  case round =>
    clear hO3 hB3
    obtain ⟨A', c', j, hj, rfl, hO, hB⟩ := hrel
    have hB' := hB.size
    by_cases hlt : j < z
    · have hm : ((n + 1 + j) % 64 : Nat) ≠ 56 := by omega
      have ht : decide (Int.tmod ((n : Int) + 1 + (j : Int)) 64 = 56) = false := by
        rw [Int.tmod_eq_emod_of_nonneg (by omega)]; simp; omega
      have hOa := hO.alloc (.cells #[.int .u8 0] 5)
      have hra := RB.new wr #[.int .u8 0] 5 (0, 0) [0] rfl (by decide)
      have HB := Lib.hid hB
      have HO := Lib.hid hO
      clear hB hO
      go_wp2_with (at_builtin; refine wpList_append_rb rfl (.tmp 18) (.tmp 19) rfl rfl rfl hOa hra (by simp; omega) (by simp; omega) ?_; intro A3 c3 w4 hO4 ho4 _)
      go_roundw
      case rel =>
        refine ⟨A3, c3, j + 1, by omega, rfl, ?_, below_app HB.out hB' HO.out ho4⟩
        have e : b ++ [128] ++ List.replicate (j + 1) 0 = b ++ [128] ++ List.replicate j 0 ++ [0] := by rw [List.replicate_succ', ← List.append_assoc]
        rw [e]; exact hO4
      case measure => simp [lenV]; omega
    · obtain rfl : j = z := by omega
      have hm : ((n + 1 + j) % 64 : Nat) = 56 := by omega
      have ht : decide (Int.tmod ((n : Int) + 1 + (j : Int)) 64 = 56) = true := by
        rw [Int.tmod_eq_emod_of_nonneg (by omega)]; simp; omega
      have ht2 : (((n : Int) + 1 + (j : Int)) % 64 != 56) = false := by simp; omega
      have w8 : IntKind.u64.wrap (IntKind.u64.wrap (n : Int) * 8) = ((8 * n : Nat) : Int) := by rw [IntKind.wrap_u64, IntKind.wrap_u64]; omega
      have w8' : IntKind.u64.wrap (n : Int) = (n : Int) := by rw [IntKind.wrap_u64]; omega
      rw [w8'] at w8
      obtain ⟨v, hv⟩ : ∃ v, v = 8 * n := ⟨_, rfl⟩
      rw [← hv] at w8
      obtain ⟨q, hq⟩ : ∃ q, q = n + 1 + j := ⟨_, rfl⟩
      obtain ⟨l0, hl0⟩ : ∃ l, l = b ++ [128] ++ List.replicate j 0 := ⟨_, rfl⟩
      rw [← hl0] at hO
      have HO := Lib.hid hO
      have HB := Lib.hid hB
      have HV := Lib.hid hv
      have HL0 := Lib.hid hl0
      have HLEN := Lib.hid hlen
      have hjb : j < 64 := by omega
      clear hO hB hv hb hz1 hj hlt hq hl0 hlen
      go_wp2
      go_loopw [3, 5] (fun v3 v5 wr => ∃ (A' : Option Addr) (c' i : Nat), i ≤ 8 ∧ v3 = .slice A' (n + 1 + j + i) c' ∧ v5 = .int .i64 (56 - 8 * (i : Int)) ∧ Own wr w.heap.size A' (n + 1 + j + i) c' (l0 ++ bebTo v 8 i) ∧ Below w.heap.size w wr) (fun v _ _ => n + 1 + j + 8 - lenV v)
      case atStart => exact ⟨A', c', 0, by decide, rfl, rfl, by simpa [bebTo] using HO.out, HB.out⟩
      case round =>
        clear HO HB hm ht ht2 hB'
        obtain ⟨A', c', i, hi, rfl, rfl, hO, hB⟩ := hrel
        have hB' := hB.size
        by_cases hlt : i < 8
        · obtain ⟨s, hs⟩ : ∃ s : Nat, (s : Int) = 56 - 8 * (i : Int) := ⟨56 - 8 * i, by omega⟩
          have hs64 : s ≤ 64 := by omega
          rw [← hs]
          obtain ⟨y, hy⟩ : ∃ y : Nat, y = v / 256 ^ (8 - 1 - i) % 256 := ⟨_, rfl⟩
          have hy2 : y < 256 := by omega
          have hp : (2 : Nat) ^ s = 256 ^ (8 - 1 - i) := by
            rw [show (256 : Nat) = 2 ^ 8 from rfl, ← Nat.pow_mul, show s = 8 * (8 - 1 - i) by omega]
          have hby : IntKind.u8.wrap ((v : Int) / 2 ^ s) = (y : Int) := by
            have e1 : (v : Int) / 2 ^ s = ((v / 2 ^ s : Nat) : Int) := by rw [Int.natCast_ediv, Int.natCast_pow]; rfl
            rw [e1, IntKind.wrap_u8, hy, hp]; omega
          have hby2 : (v : Int) / 2 ^ s % 256 = (y : Int) := by rw [← IntKind.wrap_u8]; exact hby
          have hstep : IntKind.i64.wrap ((s : Int) - 8) = 56 - 8 * ((i + 1 : Nat) : Int) := by rw [IntKind.wrap_i64]; omega
          have hOa := hO.alloc (.cells #[.int .u8 (y : Int)] 5)
          have hra := RB.new wr #[.int .u8 (y : Int)] 5 (0, 0) [y] rfl (by simpa using hy2)
          have HB := Lib.hid hB
          have HO := Lib.hid hO
          have HY := Lib.hid hy
          have HS := Lib.hid hs
          clear hB hO hp hy hs
          go_wp2_with (at_builtin; refine wpList_append_rb rfl (.tmp 29) (.tmp 34) rfl rfl rfl hOa hra (by simp; omega) (by simp; omega) ?_; intro A3 c3 w4 hO4 ho4 _)
          go_roundw
          case rel =>
            refine ⟨A3, c3, i + 1, by omega, rfl, rfl, ?_, below_app HB.out hB' HO.out ho4⟩
            have e : l0 ++ bebTo v 8 (i + 1) = l0 ++ bebTo v 8 i ++ [y] := by rw [bebTo_succ, HY.out, List.append_assoc]
            rw [e]; exact hO4
          case measure => simp [lenV]; omega
        · obtain rfl : i = 8 := by omega
          have HO := Lib.hid hO
          have HB := Lib.hid hB
          clear hO hB
          go_wp2
          go_ret
          refine ⟨A', n + 1 + j + 8, c', rfl, ?_, HB.out⟩
          have e : Sha.padded b = l0 ++ bebTo v 8 8 := by
            unfold Sha.padded
            rw [HLEN.out, ← HZ.out, ← HV.out, HL0.out]
            simp [beb]
          rw [e]; exact HO.out
end Go.Proofs.Ytinndlofnpkfhaa
