/-
  Package head: line, empty, bare, named; strings.Cut at a colon.
-/
import Derived.Test.YtigkjjbdbficnaaDoorPl
import Derived.Test.YtigkjjbdbficnaaDoorAlike
import Derived.Test.YtigkjjbdbficnaaDoorShelf
import Derived.BigQuiet
import Derived.Deep.QuietTactic
namespace Go.Proofs.YtigkjjbdbficnaaDoor
open Go.RowKit

theorem slice_h (ad : Addr) (n c k : Nat) (hk : k ≤ c) (w : World) :
    (Instr.slice 22 (.slice (some ad) n c) none (some (.int .i64 (k : Int))) none).run Tryd.prog w = .ok (.slice (some ad) k c) w := by
  obtain ⟨i, hi, -, hz1, -⟩ := info_parts Tryd.info5
  have := run_slice_h (P := Tryd.prog) (w := w) 22 (some ad) n c (by kernel_rfl) .i64 k (by omega) (by omega)
  rw [this]
  simp [sizeOf, typeInfo, hi, hz1, sliced, Program.elem, Addr.add]

/-- What line hands back: two parts, that read where the whole reads. -/
def Lined (w : World) (ad : Addr) (u : U) (e : Ending) (w' : World) : Prop :=
  ∃ A1 c1 A2 c2, e = .returned (.tuple #[.slice A1 (ln u) c1, .slice A2 (u.length - ln u) c2]) ∧
    (∀ W, RB W (some ad) u.length (nu u) → RB W A1 (ln u) (nu (u.take (ln u))) ∧ RB W A2 (u.length - ln u) (nu (u.drop (ln u)))) ∧
    u.length - ln u ≤ c2 ∧ Below w.heap.size w w'

theorem below_dn (w : World) (q : Nat) : Below w.heap.size w (w.drewN q) := ⟨rfl, rfl, rfl, Nat.le_refl _, fun _ _ => rfl⟩
theorem index10 (ad : Addr) (n c : Nat) (u : U) (w : World) (h : RB w (some ad) n (nu u)) :
    Calls Tryd.prog 18 #[.slice (some ad) n c, .int .u8 10] w fun e w' => e = .returned (.int .i64 (if nl u < u.length then (nl u : Int) else -1)) ∧ w' = w := by
  have hl : u.length = n := by have := h.1; rw [nu_length] at this; exact this
  have := Tryd.bytes_IndexByte_at ad n c (u.map fun x => (x.toNat : Int)) 10 w (by rw [List.length_map]; exact hl) (fun i hi => by
    obtain ⟨ad', x, e, hx, -, hc⟩ := h.at_ hi
    injection e with e
    subst e
    rw [hc]
    have : nu u = u.map UInt8.toNat := rfl
    rw [this, List.getElem?_map, Option.map_eq_some_iff] at hx
    obtain ⟨y, hy, rfl⟩ := hx
    rw [List.getD_eq_getElem?_getD, List.getElem?_map, hy]
    rfl)
  rw [show Lib.bytesOf (u.map fun x => (x.toNat : Int)) = u from by simp [Lib.bytesOf, Function.comp_def], show ((10 : Int).toNat.toUInt8) = 10 from rfl, indexByte_idx] at this
  exact this

set_option maxHeartbeats 1000000 in
theorem line_any (ad : Addr) (n c : Nat) (u : U) (w : World) (h : RB w (some ad) n (nu u)) (hc : n ≤ c) (hn : n ≤ 100000) :
    Calls Tryd.prog 11 #[.slice (some ad) n c] w (Lined w ad u) := by
  have hl : u.length = n := by have := h.1; rw [nu_length] at this; exact this
  have hI := index10 ad n c u w h
  have hle := nl_le u
  by_cases hf : nl u < u.length
  · rw [if_pos hf] at hI
    obtain ⟨k, hk⟩ : ∃ k, k = ln u := ⟨_, rfl⟩
    obtain ⟨j, hj⟩ : ∃ j, j = nl u := ⟨_, rfl⟩
    have e1 : k = j + 1 := by rw [hk, hj]; unfold ln; omega
    rw [← hj] at hI hf hle
    have x1 : (j : Int) + 1 = (k : Int) := by omega
    have x1' : IntKind.i64.wrap (k : Int) = (k : Int) := by rw [IntKind.wrap_i64]; omega
    have s1 : ∀ w', (Instr.slice 22 (.slice (some ad) n c) none (some (.int .i64 (k : Int))) none).run Tryd.prog w' = .ok (.slice (some ad) k c) w' := slice_h ad n c k (by omega)
    have s2 : ∀ w', (Instr.slice 22 (.slice (some ad) n c) (some (.int .i64 (k : Int))) none none).run Tryd.prog w' = .ok (.slice (cut (some ad) c k) (n - k) (c - k)) w' := slice_l (some ad) n c k (by omega)
    have HK := Lib.hid hk
    have HR := Lib.hid h
    have HL := Lib.hid hl
    have hkn : k ≤ n := by omega
    clear hk h hl hj e1
    go_enter Tryd.func11, Tryd.ntmps11
    go_wp2_with (go_at_call 18; refine hI.mono ?_; rintro e w1 ⟨rfl, rfl⟩)
    go_quiet (fail)
    go_wp2
    go_ret2
    refine ⟨some ad, c, cut (some ad) c k, c - k, by rw [← HK.out, HL.out]; rfl, fun W hW => ?_, by rw [← HK.out, HL.out]; omega, below_dn _ _⟩
    rw [HL.out] at hW
    exact ⟨by rw [← HK.out, ← nu_take]; exact hW.take hkn, by rw [← HK.out, ← nu_drop, HL.out]; exact hW.drop hkn hc⟩
  · rw [if_neg hf] at hI
    have HK : Hid (ln u = n) := by show ln u = n; unfold ln; omega
    have HR := Lib.hid h
    have HL := Lib.hid hl
    clear h hl hf hle
    go_enter Tryd.func11, Tryd.ntmps11
    go_wp2_with (go_at_call 18; refine hI.mono ?_; rintro e w1 ⟨rfl, rfl⟩)
    go_ret2
    have e0 : n - n = 0 := Nat.sub_self n
    refine ⟨some ad, c, none, 0, by rw [HK.out, HL.out, e0]; rfl, fun W hW => ?_, by rw [HK.out, HL.out]; omega, Below.refl _ _⟩
    exact ⟨by rw [HK.out, ← HL.out, List.take_length]; exact hW, by rw [HK.out, ← HL.out, List.drop_length, Nat.sub_self]; exact RB.nil _ _⟩

theorem st_beq (u v : U) : ((st u).toList == (st v).toList) = decide (u = v) := by
  rw [ByteArray.toList_eq, ByteArray.toList_eq, st_data, st_data]
  by_cases h : u = v
  · subst h; simp
  · rw [decide_eq_false h, beq_eq_false_iff_ne]; exact h
theorem st_beq0 (u v : U) : ((st u).toList == v) = decide (u = v) := by
  rw [ByteArray.toList_eq, st_data]
  by_cases h : u = v
  · subst h; simp
  · rw [decide_eq_false h, beq_eq_false_iff_ne]; exact h
theorem conv_u {w : World} {A : Option Addr} {n : Nat} {u : U} (h : RB w A n (nu u)) (c : Nat) : (convert 22 9 (.slice A n c)).run Tryd.prog w = .ok (.string (st u)) w := by
  rw [← str_nu]; exact conv_rb h c

set_option maxHeartbeats 1000000 in
theorem empty_any (A : Option Addr) (n c : Nat) (u : U) (w : World) (h : RB w A n (nu u)) :
    Calls Tryd.prog 12 #[.slice A n c] w fun e w' => e = .returned (.bool (emptyU u)) ∧ w' = w := by
  have hcv := conv_u h c
  have b1 : ((st u).toList == [10]) = decide (u = [10]) := st_beq0 u [10]
  have b2 : ((st u).toList == [13, 10]) = decide (u = [13, 10]) := st_beq0 u [13, 10]
  have HE : Hid (emptyU u = (decide (u = [10]) || decide (u = [13, 10]))) := rfl
  clear h
  generalize decide (u = [10]) = d1 at *
  generalize decide (u = [13, 10]) = d2 at *
  cases d1
  · go_enter Tryd.func12, Tryd.ntmps12
    go_wp2
    go_ret
    exact ⟨by rw [HE.out]; rfl, rfl⟩
  · go_enter Tryd.func12, Tryd.ntmps12
    go_wp2
    go_ret
    exact ⟨by rw [HE.out]; rfl, rfl⟩

set_option maxHeartbeats 1000000 in
theorem bare_any (A : Option Addr) (n c : Nat) (u : U) (w : World) (h : RB w A n (nu u)) (hn : n ≤ 100000) :
    Calls Tryd.prog 19 #[.slice A n c] w fun e w' => e = .returned (.string (st (t1 13 (t1 10 u)))) ∧ w' = w := by
  have hl : u.length = n := by have := h.1; rw [nu_length] at this; exact this
  have hcv := conv_u h c
  have h1 : ∀ W, Calls Tryd.prog 24 #[.string (st u), .string ⟨#[10]⟩] W fun e w' => e = .returned (.string (st (t1 10 u))) ∧ w' = W := fun W => by
    have := Tryd.strings_TrimSuffix (st u) ⟨#[10]⟩ W (by rw [st_size]; omega)
    rw [st_data] at this
    rw [← trimSuffix_t1]
    exact this
  have h2 : ∀ W, Calls Tryd.prog 24 #[.string (st (t1 10 u)), .string ⟨#[13]⟩] W fun e w' => e = .returned (.string (st (t1 13 (t1 10 u)))) ∧ w' = W := fun W => by
    have hl2 := t1_le 10 u
    have := Tryd.strings_TrimSuffix (st (t1 10 u)) ⟨#[13]⟩ W (by rw [st_size]; omega)
    rw [st_data] at this
    rw [← trimSuffix_t1 13]
    exact this
  clear h
  generalize st (t1 13 (t1 10 u)) = s2 at *
  generalize st (t1 10 u) = s1 at *
  generalize st u = s0 at *
  go_enter Tryd.func19, Tryd.ntmps19
  go_wp2_with fail
  refine (h1 _).mono ?_
  rintro e w1 ⟨rfl, rfl⟩
  go_wp2_with fail
  refine (h2 _).mono ?_
  rintro e w1 ⟨rfl, rfl⟩
  go_wp2
  go_ret
  exact ⟨rfl, rfl⟩

theorem st_at (s : U) {k : Nat} {x : UInt8} (h : s[k]? = some x) (w : World) : (Instr.index 9 (.string (st s)) (.int .i64 (k : Int))).run Tryd.prog w = .ok (.int .u8 (x.toNat : Int)) w := by
  have hk : k < s.length := (List.getElem?_eq_some_iff.1 h).1
  obtain ⟨y, hy, -, hrun⟩ := ofStr_at (st s) k (by rw [st_size]; exact hk)
  rw [ofStr_st] at hy
  have e : nu s = s.map UInt8.toNat := rfl
  rw [e, List.getElem?_map, h] at hy
  injection hy with hy
  rw [hrun, ← hy]

theorem nameok_no {s : U} {k : Nat} {x : UInt8} (h : s[k]? = some x) (hx : okc x = false) : nameok s = false := by
  unfold nameok
  rw [Bool.and_eq_false_iff]
  right
  rw [List.all_eq_false]
  exact ⟨x, List.mem_of_getElem? h, by rw [hx]; decide⟩

set_option maxHeartbeats 1000000 in
theorem named_any (s : U) (w : World) (hs : s.length ≤ 100000) :
    Calls Tryd.prog 21 #[.string (st s)] w fun e w' => e = .returned (.bool (nameok s)) ∧ ∃ n, w' = w.drewN n := by
  have hz := st_size s
  go_enter Tryd.func21, Tryd.ntmps21
  go_wp2_with fail
  go_loopw [6] (fun i wr => ∃ k : Nat, k ≤ s.length ∧ i = .int .i64 k ∧ (∀ x ∈ s.take k, okc x = true) ∧ ∃ m, wr = w.drewN m) (fun i _ => s.length - (intOf i).toNat)
  case atStart => exact ⟨0, Nat.zero_le _, rfl, by simp, 0, rfl⟩
  case round =>
    obtain ⟨k, hk, rfl, hall, m, hwr⟩ := hrel
    have HA := Lib.hid hall
    have HW := Lib.hid hwr
    clear hall hwr
    by_cases hlt : k < s.length
    · obtain ⟨x, hx⟩ : ∃ x, s[k]? = some x := ⟨_, List.getElem?_eq_getElem hlt⟩
      have hix := fun W => st_at s hx W
      have hx2 := x.toNat_lt
      have HX := Lib.hid hx
      have HS := Lib.hid (show s.take (k + 1) = s.take k ++ [x] by rw [List.take_add_one, hx]; rfl)
      have HO : Hid (okc x = (decide (33 ≤ x.toNat) && decide (x.toNat ≤ 126))) := rfl
      clear hx
      obtain ⟨y, hy⟩ : ∃ y, y = x.toNat := ⟨_, rfl⟩
      rw [← hy] at hix hx2 HO
      clear hy
      by_cases h1 : y < 33
      · have HF : Hid (nameok s = false) := nameok_no HX.out (by rw [HO.out, decide_eq_false (by omega)]; rfl)
        go_wp2
        go_ret
        exact ⟨by rw [HF.out]; rfl, m, HW.out⟩
      · by_cases h2 : 126 < y
        · have HF : Hid (nameok s = false) := nameok_no HX.out (by rw [HO.out, decide_eq_false (show ¬ y ≤ 126 by omega), Bool.and_false])
          go_wp2
          go_ret
          exact ⟨by rw [HF.out]; rfl, m, HW.out⟩
        · go_wp2
          go_roundw
          case rel =>
            refine ⟨k + 1, by omega, by go_num, fun z hz => ?_, m, HW.out⟩
            rw [HS.out] at hz
            rcases List.mem_append.1 hz with hz | hz
            · exact HA.out z hz
            · rw [List.mem_singleton.1 hz, HO.out, decide_eq_true (by omega), decide_eq_true (by omega)]; rfl
          case measure => simp [intOf]; omega
    · obtain rfl : k = s.length := by omega
      have hall := HA.out
      rw [List.take_length] at hall
      have HE : Hid (nameok s = !(st s).toList.isEmpty) := by
        show _ = _
        unfold nameok
        rw [List.all_eq_true.2 hall, Bool.and_true, ByteArray.toList_eq, st_data]
        cases s <;> simp
      clear hall
      go_wp2
      go_ret
      exact ⟨by rw [HE.out]; rfl, m, HW.out⟩

theorem st_append (u v : U) : st u ++ st v = st (u ++ v) := by
  apply ByteArray.ext
  simp [st]
theorem st_extract (s : U) (a b : Nat) : (st s).extract a b = st ((s.take b).drop a) := by
  apply ByteArray.ext
  rw [ByteArray.data_extract]
  apply Array.toList_inj.1
  simp [st, List.drop_take]
theorem slice_st_h (s : U) (k : Nat) (hk : k ≤ s.length) (w : World) :
    (Instr.slice 9 (.string (st s)) none (some (.int .i64 (k : Int))) none).run Tryd.prog w = .ok (.string (st (s.take k))) w := by
  have := run_slice_string_h (P := Tryd.prog) w 9 (st s) Tryd.underlying9 .i64 (k : Int) (by omega) (by rw [st_size]; omega)
  rw [this, st_extract]
  rfl
theorem slice_st_l (s : U) (k : Nat) (hk : k ≤ s.length) (w : World) :
    (Instr.slice 9 (.string (st s)) (some (.int .i64 (k : Int))) none none).run Tryd.prog w = .ok (.string (st (s.drop k))) w := by
  have := run_slice_string_l (P := Tryd.prog) w 9 (st s) Tryd.underlying9 .i64 (k : Int) (by omega) (by rw [st_size]; omega)
  rw [this, st_extract, st_size, List.take_length]
  rfl

/-- What strings.Cut at a colon hands back. -/
def cutE (s : U) : Ending := if idx 58 s < s.length then .returned (.tuple #[.string (st (s.take (idx 58 s))), .string (st (s.drop (idx 58 s + 1))), .bool true]) else .returned (.tuple #[.string (st s), .string (st []), .bool false])
set_option maxHeartbeats 1000000 in
theorem lcut_any (s : U) (w : World) (hs : s.length ≤ 100000) :
    Calls Tryd.prog 25 #[.string (st s), .string ⟨#[58]⟩] w fun e w' => e = cutE s ∧ Below w.heap.size w w' := by
  have hI := Tryd.stringslite_Index_one (st s) 58 w
  rw [st_data, indexByte_idx] at hI
  have HE : Hid (cutE s = if idx 58 s < s.length then .returned (.tuple #[.string (st (s.take (idx 58 s))), .string (st (s.drop (idx 58 s + 1))), .bool true]) else .returned (.tuple #[.string (st s), .string (st []), .bool false])) := rfl
  by_cases hf : idx 58 s < s.length
  · rw [if_pos hf] at hI HE
    obtain ⟨j, hj⟩ : ∃ j, j = idx 58 s := ⟨_, rfl⟩
    obtain ⟨k, hk⟩ : ∃ k, k = j + 1 := ⟨_, rfl⟩
    rw [← hj] at hI hf HE
    rw [← hk] at HE
    have x1 : (j : Int) + 1 = (k : Int) := by omega
    have x1' : IntKind.i64.wrap (k : Int) = (k : Int) := by rw [IntKind.wrap_i64]; omega
    have s1 := fun w' => slice_st_h s j (by omega) w'
    have s2 := fun w' => slice_st_l s k (by omega) w'
    have hkn : k ≤ s.length := by omega
    clear hk hj
    go_enter Tryd.func25, Tryd.ntmps25
    go_wp2_with (go_at_call 34; refine hI.mono ?_; rintro e w1 ⟨rfl, rfl⟩)
    go_quiet (fail)
    go_wp2
    go_ret3
    exact ⟨by rw [HE.out]; rfl, below_dn _ _⟩
  · rw [if_neg hf] at hI HE
    clear hf
    go_enter Tryd.func25, Tryd.ntmps25
    go_wp2_with (go_at_call 34; refine hI.mono ?_; rintro e w1 ⟨rfl, rfl⟩)
    go_ret3
    exact ⟨by rw [HE.out]; rfl, Below.refl _ _⟩
theorem cutE_form (s : U) : ∃ a b c, cutE s = .returned (.tuple #[.string a, .string b, .bool c]) := by
  unfold cutE
  split <;> exact ⟨_, _, _, rfl⟩
set_option maxHeartbeats 1000000 in
theorem scut_any (s : U) (w : World) (hs : s.length ≤ 100000) :
    Calls Tryd.prog 20 #[.string (st s), .string ⟨#[58]⟩] w fun e w' => e = cutE s ∧ Below w.heap.size w w' := by
  have hL := fun W => lcut_any s W hs
  obtain ⟨a, b, c, hc⟩ := cutE_form s
  rw [hc] at hL ⊢
  clear hc
  go_enter Tryd.func20, Tryd.ntmps20
  go_wp2_with (go_at_call 25; refine (hL _).mono ?_; rintro e w1 ⟨rfl, hb1⟩)
  go_ret3
  exact ⟨rfl, hb1⟩
end Go.Proofs.YtigkjjbdbficnaaDoor
