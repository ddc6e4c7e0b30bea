/-
  Package frame: Frame. An Out that is being filled, in short: what is in it, and that all that was there is as it was.
-/
import Derived.Test.YtlhaempecidohaaGreatDoorJaj
import Derived.Test.YtlhaempecidohaaGreatDoorJas
set_option linter.unusedSimpArgs false
set_option linter.unusedVariables false
namespace Go.Proofs.YtlhaempecidohaaGreatDoor
open Go.RowKit
theorem Ar.rb {w : World} {g : Nat} {T : TypeId} {l : List Nat} (h : Ar w g .u8 T l) (hb : ∀ x ∈ l, x < 256) : RB w (some ⟨g, 0, none⟩) l.length l :=
  ⟨rfl, hb, fun _ => ⟨_, rfl, fun j x hj => by
    have e : (⟨g, 0, none⟩ : Addr).add j = ⟨g, j, none⟩ := by unfold Addr.add; split <;> simp_all
    rw [e]; exact h.cell hj⟩⟩
set_option maxHeartbeats 2000000 in
theorem frame_ok (k : Nat) (A : Option Addr) (n c : Nat) (p : List Nat) (w : World) (h : RB w A n p) (h1 : 1 ≤ k) (h2 : k ≤ 3) (h3 : n ≤ 30000) :
    Calls Tryz.prog 157 #[.int .i64 (k : Int), .slice A n c] w (Ended w (frameB k p) 0) := by
  have kc := fun (w : World) (C : Array Value) (n c g : Nat) (hg : g = w.heap.size) => Joins.run_convert_bytes_const_at (P := Tryz.prog) w 23 5 C n c g hg Tryz.underlying23 Tryz.underlying5
  have hlen := h.1
  have hp := h.2.1
  have t1 : decide ((k : Int) < 1) = false := by simp; omega
  have t2 : decide (3 < (k : Int)) = false := by simp; omega
  have hO : OutS (w.alloc (.cells #[.slice none 0 0, .bool false] 229)) w.heap.size (w.heap.size + 1) none 0 0 [] false := ⟨heap_alloc_new w _, Own.nil _ _⟩
  have hb0 : Below w.heap.size w (w.alloc (.cells #[.slice none 0 0, .bool false] 229)) := (Below.refl _ w).alloc (Nat.le_refl _) _
  have H := Lib.hid h
  have HL := Lib.hid hlen
  clear h hlen
  go_enter Tryz.func157, Tryz.ntmps157
  go_wp2_with fail
  have hO1 := (hO.below ((Below.refl _ _).alloc (Nat.le_refl _) (.cells #[.int .u8 99, .int .u8 117, .int .u8 98] 5 (3, 4))))
  have hb1 := hb0.alloc (by simp) (.cells #[.int .u8 99, .int .u8 117, .int .u8 98] 5 (3, 4))
  have hR1 : RB ((w.alloc (.cells #[.slice none 0 0, .bool false] 229)).alloc (.cells #[.int .u8 99, .int .u8 117, .int .u8 98] 5 (3, 4))) (some ⟨w.heap.size + 1, 0, none⟩) 3 [99, 117, 98] := by
    have := RB.new (w.alloc (.cells #[.slice none 0 0, .bool false] 229)) #[.int .u8 99, .int .u8 117, .int .u8 98] 5 (3, 4) [99, 117, 98] rfl (by decide)
    simpa using this
  refine (out_raw w.heap.size (w.heap.size + 1) none 0 0 [] false _ 3 3 [99, 117, 98] _ hO1 (by simp) hR1 (by omega)).mono ?_
  rintro e w1 ⟨A1, n1, c1, rfl, hO2, ho2, -⟩
  have hb2 := outs_below hb1 hO1 (Nat.le_refl _) (by omega) (by simp; omega) ho2
  obtain rfl : n1 = 3 := hO2.2.1.symm
  clear hO hb0 hO1 hb1 hR1 ho2
  go_wp2_with fail
  refine (out_n_loop w.heap.size (w.heap.size + 1) A1 3 c1 _ false k 1 _ hO2 (by have := hb2.size; have := (Array.getElem?_eq_some_iff.1 hO2.1).1; omega) (by omega) (by omega) (by omega) (by omega)).mono ?_
  rintro e w2 ⟨A2, n2, c2, rfl, hO3, ho3, -⟩
  have hb3 := outs_below hb2 hO2 (Nat.le_refl _) (by omega) hb2.size ho3
  obtain rfl : n2 = 4 := hO3.2.1.symm
  clear hO2 hb2 ho3
  go_wp2_with fail
  refine (out_n_loop w.heap.size (w.heap.size + 1) A2 4 c2 _ false n 4 _ hO3 (by have := hb3.size; have := (Array.getElem?_eq_some_iff.1 hO3.1).1; omega) (by omega) (by omega) (by omega) (by omega)).mono ?_
  rintro e w3 ⟨A3, n3, c3, rfl, hO4, ho4, -⟩
  have hb4 := outs_below hb3 hO3 (Nat.le_refl _) (by omega) hb3.size ho4
  obtain rfl : n3 = 8 := hO4.2.1.symm
  have hl4 : [] ++ [99, 117, 98] ++ beb k 1 ++ beb n 4 = frame8 k p := by rw [frame8, HL.out, List.nil_append]
  rw [hl4] at hO4
  obtain ⟨F8, hF8⟩ : ∃ F, F = frame8 k p := ⟨_, rfl⟩
  have hF8l : F8.length = 8 := by rw [hF8]; exact frame8_length k p
  have hF8lt : ∀ x ∈ F8, x < 256 := by rw [hF8]; exact frame8_lt k p
  rw [← hF8] at hO4
  have HF8 := Lib.hid hF8
  clear hO3 hb3 ho4 hF8 hl4
  go_wp2_with fail
  refine (out_end w.heap.size (w.heap.size + 1) A3 8 c3 _ w3 hO4 (by omega)).mono ?_
  rintro e w5 ⟨A5, n5, c5, rfl, hown5, hb6⟩
  obtain rfl : n5 = 8 := by rw [← hown5.1, hF8l]
  have hO6 := hO4.below hb6
  have hb7 := hb4.trans (hb6.mono hb4.size)
  have hr5 := hown5.read
  clear hO4 hb4 hb6 hown5
  go_wp2_with fail
  refine (crc_any A5 8 c5 F8 w5 hr5 (by omega)).mono ?_
  rintro e w6 ⟨rfl, rfl⟩
  have hcrc := Crc.crc_lt F8 hF8lt
  go_wp2_with fail
  refine (out_n_loop w.heap.size (w.heap.size + 1) A3 8 c3 _ false (Crc.crc F8) 4 _ hO6 (by have := hb7.size; have := (Array.getElem?_eq_some_iff.1 hO6.1).1; omega) (by omega) (by omega) (by simpa using hcrc) (by omega)).mono ?_
  rintro e w6 ⟨A6, n6, c6, rfl, hO7, ho7, -⟩
  have hb8 := outs_below hb7 hO6 (Nat.le_refl _) (by omega) hb7.size ho7
  obtain rfl : n6 = 12 := by rw [← hO7.2.1, List.length_append, beb_length, hF8l]
  clear hO6 hb7 ho7 hr5
  go_wp2_with fail
  refine (digest_any A n c p w6 (H.out.below hb8) (by omega)).mono ?_
  rintro e w7 ⟨rfl, hb9⟩
  obtain ⟨D, hD⟩ : ∃ D, D = Sha.digest p := ⟨_, rfl⟩
  have hDl : D.length = 32 := by rw [hD]; exact Sha.digest_len p
  have hDlt : ∀ x ∈ D, x < 256 := by rw [hD]; exact Sha.digest_lt p
  rw [← hD]
  have hO8 := hO7.below hb9
  have hb10 := hb8.trans (hb9.mono hb8.size)
  obtain ⟨z, hz⟩ : ∃ z, z = List.replicate 32 0 := ⟨_, rfl⟩
  have hzl : z.length = 32 := by rw [hz]; simp
  obtain ⟨w8, hw8, hs8, hB8, hA8⟩ := lay w7 .u8 138 z
  obtain ⟨w9, hw9, hs9, hB9, hA9, ho9⟩ := putrow D hA8
  have hrD : RB w9 (some ⟨w7.heap.size, 0, none⟩) 32 D := by have := hA9.rb hDlt; rwa [hDl] at this
  have hB79 : Below w7.heap.size w7 w9 := hB8.trans hB9
  have hO9 := hO8.below hB79
  have hb11 := hb10.trans (hB79.mono hb10.size)
  have HZ := Lib.hid hz
  have HW8 := Lib.hid hw8
  have HW9 := Lib.hid hw9
  have HD := Lib.hid hD
  have HA8 := Lib.hid hA8
  have e1 : Hid ((Tryz.prog.info? 138).map (·.size) = some z.length) := by show _ = _; rw [hzl]; exact s138
  have e2 : Hid (z.length = D.length) := by show _ = _; rw [hzl, hDl]
  clear hO7 hb8 hb9 hO8 hb10 hz hzl hw8 hs8 hB8 hA8 hw9 hs9 hB9 hA9 ho9 hD hDl hDlt hB79
  go_wp2_with (first
    | (refine wpList_alloc_ar rfl 138 rfl .u8 32 z138 ?_; rw [← HZ.out, ← HW8.out])
    | (refine wpList_store_ar rfl 138 _ _ rfl rfl w7.heap.size rfl .u8 z D rfl HA8.out e1.out e2.out ?_; rw [← HW9.out]))
  clear HZ HW8 HW9 HA8 e1 e2
  refine (out_raw w.heap.size (w.heap.size + 1) A6 12 c6 _ false _ 32 32 D w9 hO9 (by have := hb11.size; have := (Array.getElem?_eq_some_iff.1 hO9.1).1; omega) hrD (by omega)).mono ?_
  rintro e w10 ⟨A7, n7, c7, rfl, hO10, ho10, -⟩
  have hb12 := outs_below hb11 hO9 (Nat.le_refl _) (by omega) hb11.size ho10
  obtain rfl : n7 = 44 := by rw [← hO10.2.1, List.length_append, List.length_append, beb_length, hF8l, hrD.1]
  clear hO9 hb11 ho10 hrD
  go_wp2_with fail
  refine (out_raw w.heap.size (w.heap.size + 1) A7 44 c7 _ false A n c p w10 hO10 (by have := hb12.size; have := (Array.getElem?_eq_some_iff.1 hO10.1).1; omega) (H.out.below hb12) (by omega)).mono ?_
  rintro e w11 ⟨A8, n8, c8, rfl, hO11, ho11, -⟩
  have hb13 := outs_below hb12 hO10 (Nat.le_refl _) (by omega) hb12.size ho11
  have hl11 : F8 ++ beb (Crc.crc F8) 4 ++ D ++ p = frameB k p := by rw [HF8.out, HD.out]; rfl
  rw [hl11] at hO11
  have hn8 : n8 = n + 44 := by rw [← hO11.2.1, frameB_length, HL.out]
  clear hO10 hb12 ho11 hl11
  go_wp2_with fail
  refine (out_end w.heap.size (w.heap.size + 1) A8 n8 c8 _ w11 hO11 (by omega)).mono ?_
  rintro e w12 ⟨A9, n9, c9, rfl, hown9, hb14⟩
  have hfin := hb13.trans (hb14.mono hb13.size)
  have hown := Own.more (B := w.heap.size) hown9 (fun j hj => Nat.le_trans hb13.size (hown9.lt j hj).1)
  clear hown9 hb14 hb13 hO11
  go_wp2
  go_ret2
  exact ⟨A9, n9, c9, rfl, hown, hfin⟩
set_option maxHeartbeats 400000 in
theorem frame_arg (k : Int) (A : Option Addr) (n c : Nat) (w : World) (h : k < 1 ∨ 3 < k) :
    Calls Tryz.prog 157 #[.int .i64 k, .slice A n c] w (Ended w [] 1) := by
  by_cases h1 : k < 1
  · clear h
    go_enter Tryz.func157, Tryz.ntmps157
    go_wp2
    go_ret2
    exact ⟨none, 0, 0, rfl, Own.nil _ _, Below.refl _ _⟩
  · have h2 : 3 < k := by omega
    clear h
    go_enter Tryz.func157, Tryz.ntmps157
    go_wp2
    go_ret2
    exact ⟨none, 0, 0, rfl, Own.nil _ _, Below.refl _ _⟩
set_option maxHeartbeats 400000 in
theorem frame_long (k : Int) (A : Option Addr) (n c : Nat) (w : World) (h1 : 1 ≤ k) (h2 : k ≤ 3) (h : 30000 < n) :
    Calls Tryz.prog 157 #[.int .i64 k, .slice A n c] w (Ended w [] 3) := by
  go_enter Tryz.func157, Tryz.ntmps157
  go_wp2
  go_ret2
  exact ⟨none, 0, 0, rfl, Own.nil _ _, Below.refl _ _⟩
end Go.Proofs.YtlhaempecidohaaGreatDoor
namespace Go.Proofs.YtlhaempecidohaaGreatDoor
open Go.RowKit
/-- An Out at g holds l; of w0 nothing has turned. -/
structure OutW (w0 w : World) (g : Nat) (l : List Nat) : Prop where
  out : ∃ A n c, OutS w g (g + 1) A n c l false
  below : Below w0.heap.size w0 w
  ge : w0.heap.size ≤ g
section
variable {w0 w w' : World} {g : Nat} {l : List Nat}
theorem OutW.made (w0 : World) (w : World) (hb : Below w0.heap.size w0 w) : OutW w0 (w.alloc (.cells #[.slice none 0 0, .bool false] 229)) w.heap.size [] :=
  ⟨⟨none, 0, 0, heap_alloc_new w _, Own.nil _ _⟩, hb.alloc hb.size _, hb.size⟩
theorem OutW.step {A : Option Addr} {n c : Nat} {l' : List Nat} (hO : OutS w g (g + 1) A n c l false) (h : OutW w0 w g l) {e : Ending} (ho : Outs w g (g + 1) A l' false e w') :
    e = .returned (.tuple #[]) ∧ OutW w0 w' g l' := by
  obtain ⟨A', n', c', rfl, hO', hon, -⟩ := ho
  exact ⟨rfl, ⟨A', n', c', hO'⟩, outs_below h.below hO h.ge (by have := h.ge; omega) h.below.size hon, h.ge⟩
theorem OutW.size (h : OutW w0 w g l) : g + 1 ≤ w.heap.size := by
  obtain ⟨A, n, c, hO⟩ := h.out
  exact (Array.getElem?_eq_some_iff.1 hO.1).1
theorem OutW.n (h : OutW w0 w g l) (x s : Nat) (hl : l.length ≤ 10000000) (hs1 : 1 ≤ s) (hs2 : s ≤ 7) (hx : x < 256 ^ s) :
    Calls Tryz.prog 141 #[.pointer (some ⟨g, 0, none⟩), .int .i64 (x : Int), .int .i64 (s : Int)] w fun e w' => e = .returned (.tuple #[]) ∧ OutW w0 w' g (l ++ beb x s) := by
  obtain ⟨A, n, c, hO⟩ := h.out
  exact (out_n_loop g (g + 1) A n c l false x s w hO h.size hs1 hs2 hx (by have := hO.2.1; omega)).mono fun e w' ho => h.step hO ho
theorem OutW.raw (h : OutW w0 w g l) (X : Option Addr) (m cx : Nat) (news : List Nat) (hr : RB w0 X m news) (hl : l.length + m ≤ 10000000) :
    Calls Tryz.prog 197 #[.pointer (some ⟨g, 0, none⟩), .slice X m cx] w fun e w' => e = .returned (.tuple #[]) ∧ OutW w0 w' g (l ++ news) := by
  obtain ⟨A, n, c, hO⟩ := h.out
  exact (out_raw g (g + 1) A n c l false X m cx news w hO h.size (hr.below h.below) (by have := hO.2.1; omega)).mono fun e w' ho => h.step hO ho
theorem OutW.text (h : OutW w0 w g l) (s : ByteArray) (hs : s.size < 65536) (hl : l.length + s.size ≤ 10000000) :
    Calls Tryz.prog 140 #[.pointer (some ⟨g, 0, none⟩), .string s] w fun e w' => e = .returned (.tuple #[]) ∧ OutW w0 w' g (l ++ (beb s.size 2 ++ ofStr s)) := by
  obtain ⟨A, n, c, hO⟩ := h.out
  refine (out_text g (g + 1) A n c l false s w hO h.size (by have := hO.2.1; omega)).mono fun e w' ho => ?_
  rw [Bool.false_or, decide_eq_false (by omega : ¬ 65536 ≤ s.size)] at ho
  have e1 : lenB s.size = beb s.size 2 := by unfold lenB; rw [if_pos hs]
  rw [e1, List.append_assoc] at ho
  exact h.step hO ho
theorem OutW.done (h : OutW w0 w g l) (hl : l.length ≤ 10000000) :
    Calls Tryz.prog 198 #[.pointer (some ⟨g, 0, none⟩)] w fun e w' => Ended w0 l 0 e w' := by
  obtain ⟨A, n, c, hO⟩ := h.out
  refine (out_end g (g + 1) A n c l w hO (by have := hO.2.1; omega)).mono ?_
  rintro e w1 ⟨A', n', c', rfl, hown, hb⟩
  exact ⟨A', n', c', rfl, Own.more (B := w0.heap.size) hown (fun j hj => Nat.le_trans h.below.size (hown.lt j hj).1), h.below.trans (hb.mono h.below.size)⟩
end
end Go.Proofs.YtlhaempecidohaaGreatDoor
