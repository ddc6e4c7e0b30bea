/-
  The document's Frame.
-/
import Derived.Test.YtinndlofnpkfhaaFrm
import Derived.Test.YtinndlofnpkfhaaRDig
namespace Go.Proofs.Ytinndlofnpkfhaa
open Go.RowKit

set_option maxHeartbeats 2000000 in
theorem rframe (k : Nat) (A : Option Addr) (n c : Nat) (p : List Nat) (w : World) (h : RB w A n p) (h1 : 1 ≤ k) (h2 : k ≤ 3) (h3 : n ≤ 60000) :
    Calls Try.prog 44 #[.int .i64 (k : Int), .slice A n c] w (Cloned w (n + 44) (frameB k p)) := by
  have hlen := h.1
  have hp := h.2.1
  have H := Lib.hid h
  have HL := Lib.hid hlen
  have hk : beb k 1 = [k] := by
    have : k % 256 = k := by omega
    simp [beb, bebTo, List.range_succ, this]
  have HK := Lib.hid hk
  have hown := Own.lit w w.heap.size #[.int .u8 99, .int .u8 117, .int .u8 98, .int .u8 (k : Int)] 4 [99, 117, 98, k] rfl rfl (by intro x hx; simp at hx; omega) (Nat.le_refl _) (by unfold maxLen; omega)
  have hb0 : Below w.heap.size w (w.alloc (.cells #[.int .u8 99, .int .u8 117, .int .u8 98, .int .u8 (k : Int)] 5)) := (Below.refl _ w).alloc (Nat.le_refl _) _
  clear h hlen hk
  go_enter Try.func44, Try.ntmps44
  go_wp2_with fail
  refine (rbytes n 4 _ (by omega) (by omega)).mono ?_
  rintro e w1 ⟨A1, c1, rfl, hown1, hb1⟩
  have hb2 := hb0.trans (hb1.mono hb0.size)
  have hown2 := hown.only (Only.of_below hb1 (fun _ => False)) (fun _ _ h => h)
  have hr1 := hown1.read
  clear hown hb0 hown1 hb1
  go_wp2_with (first | (at_builtin; refine wpList_append_rb rfl (.tmp 9) (.tmp 13) rfl rfl rfl hown2 hr1 (by omega) hb2.size ?_; intro A2 c2 w2 hown3 hon2 hbk2; have hb3 := hb2.trans (hon2.below hb2.size (fun i hi e => by have := (hown2.lt i e).1; omega))))
  have hl4 : [99, 117, 98, k] ++ beb n 4 = frame8 k p := by rw [frame8, HL.out, HK.out]; rfl
  rw [hl4] at hown3
  obtain ⟨F8, hF8⟩ : ∃ F, F = frame8 k p := ⟨_, rfl⟩
  have hF8l : F8.length = 8 := by rw [hF8]; exact frame8_length k p
  have hF8lt : ∀ x ∈ F8, x < 256 := by rw [hF8]; exact frame8_lt k p
  rw [← hF8] at hown3
  have HF8 := Lib.hid hF8
  have hr4 := hown3.read
  clear hown2 hr1 hon2 hbk2 hb2 hl4 hF8
  refine (rcrc_any A2 (4 + 4) c2 F8 w2 hr4 (by omega)).mono ?_
  rintro e w4 ⟨rfl, rfl⟩
  have hcrc := Crc.crc_lt F8 hF8lt
  go_wp2_with fail
  refine (rbytes (Crc.crc F8) 4 w2 (by omega) (by omega)).mono ?_
  rintro e w4 ⟨A4, c4, rfl, hown5, hb5⟩
  have hown6 := hown3.only (Only.of_below hb5 (fun _ => False)) (fun _ _ h => h)
  have hr5 := hown5.read
  have hb6 := hb3.trans (hb5.mono hb3.size)
  clear hown3 hr4 hown5 hb5 hb3
  go_wp2_with (at_builtin; refine wpList_append_rb rfl (.tmp 15) (.tmp 19) rfl rfl rfl hown6 hr5 (by omega) hb6.size ?_; intro A5 c5 w5 hown7 hon7 hbk7)
  have hb7 := hb6.trans (hon7.below hb6.size (fun i hi e => by have := (hown6.lt i e).1; omega))
  clear hown6 hon7 hbk7 hb6 hr5
  refine (rdigest_any A n c p w5 (H.out.below hb7) (by omega)).mono ?_
  rintro e w7 ⟨rfl, hb9⟩
  obtain ⟨D, hD⟩ : ∃ D, D = Sha.digest p := ⟨_, rfl⟩
  have hDl : D.length = 32 := by rw [hD]; exact Sha.digest_len p
  have hDlt : ∀ x ∈ D, x < 256 := by rw [hD]; exact Sha.digest_lt p
  rw [← hD]
  have hown8 := hown7.only (Only.of_below hb9 (fun _ => False)) (fun _ _ h => h)
  have hb10 := hb7.trans (hb9.mono hb7.size)
  obtain ⟨z, hz⟩ : ∃ z, z = List.replicate 32 0 := ⟨_, rfl⟩
  have hzl : z.length = 32 := by rw [hz]; simp
  obtain ⟨w8, hw8, hs8, hB8, hA8⟩ := lay w7 .u8 58 z
  obtain ⟨w9, hw9, hs9, hB9, hA9, ho9⟩ := putrow D hA8
  have hrD : RB w9 (some ⟨w7.heap.size, 0, none⟩) 32 D := by have := hA9.rb hDlt; rwa [hDl] at this
  have hB79 : Below w7.heap.size w7 w9 := hB8.trans hB9
  have hown9 := hown8.only (Only.of_below hB79 (fun _ => False)) (fun _ _ h => h)
  have hb11 := hb10.trans (hB79.mono hb10.size)
  have hrp := H.out.below hb11
  have HZ := Lib.hid hz
  have HW8 := Lib.hid hw8
  have HW9 := Lib.hid hw9
  have HD := Lib.hid hD
  have HA8 := Lib.hid hA8
  have e1 : Hid ((Try.prog.info? 58).map (·.size) = some z.length) := by show _ = _; rw [hzl]; exact s58
  have e2 : Hid (z.length = D.length) := by show _ = _; rw [hzl, hDl]
  clear hown7 hb7 hb9 hown8 hb10 hz hzl hw8 hs8 hB8 hA8 hw9 hs9 hB9 hA9 ho9 hD hDl hDlt hB79
  go_wp2_with (first
    | (refine wpList_alloc_ar rfl 58 rfl .u8 32 z58 ?_; rw [← HZ.out, ← HW8.out])
    | (refine wpList_store_ar rfl 58 _ _ rfl rfl w7.heap.size rfl .u8 z D rfl HA8.out e1.out e2.out ?_; rw [← HW9.out])
    | (at_builtin; refine wpList_append_rb rfl (.tmp 23) (.tmp 24) rfl rfl rfl hown9 hrD (by omega) hb11.size ?_; intro A6 c6 w10 hown10 hon10 hbk10; have hb12 := hb11.trans (hon10.below hb11.size (fun i hi e => by have := (hown9.lt i e).1; omega)); have hrp2 := H.out.below hb12)
    | (at_builtin; refine wpList_append_rb rfl (.tmp 25) (.tmp 26) rfl rfl rfl hown10 hrp2 (by omega) hb12.size ?_; intro A7 c7 w11 hown11 hon11 hbk11))
  have hb13 := hb12.trans (hon11.below hb12.size (fun i hi e => by have := (hown10.lt i e).1; omega))
  have hfr : F8 ++ beb (Crc.crc F8) 4 ++ D ++ p = frameB k p := by rw [HF8.out, HD.out]; rfl
  rw [hfr] at hown11
  go_ret
  refine ⟨A7, c7, ?_, ?_, hb13⟩
  · have : 4 + 4 + 4 + 32 + n = n + 44 := by omega
    rw [← this]; rfl
  · have : 4 + 4 + 4 + 32 + n = n + 44 := by omega
    rw [← this]; exact hown11
end Go.Proofs.Ytinndlofnpkfhaa
