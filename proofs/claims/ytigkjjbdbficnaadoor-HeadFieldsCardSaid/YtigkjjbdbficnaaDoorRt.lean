/-
  The reference's trimmed.
-/
import Derived.Test.YtigkjjbdbficnaaDoorFl
namespace Go.Proofs.YtigkjjbdbficnaaDoor
open Go.RowKit

/-! ### Plain: from the left first, or from the right -/
abbrev bl : U := [32, 9]
theorem trimR_cons (c : UInt8) (r : U) : Lib.trimRightS (c :: r) bl = if (Lib.trimRightS r bl).isEmpty && bl.contains c then [] else c :: Lib.trimRightS r bl := by
  unfold Lib.trimRightS
  rw [List.reverse_cons, List.dropWhile_append]
  cases h : List.dropWhile (fun x => bl.contains x) r.reverse with
  | nil =>
    simp only [List.isEmpty_nil, if_true, List.reverse_nil, Bool.true_and]
    rw [List.dropWhile_cons]
    cases hc : bl.contains c <;> simp
  | cons a t => simp
theorem trim_comm (z : U) : Lib.trimRightS (Lib.trimLeftS z bl) bl = Lib.trimLeftS (Lib.trimRightS z bl) bl := by
  induction z with
  | nil => rfl
  | cons c r ih =>
    rw [trimR_cons]
    have e : Lib.trimLeftS (c :: r) bl = if bl.contains c = true then Lib.trimLeftS r bl else c :: r := by
      unfold Lib.trimLeftS
      rw [List.dropWhile_cons]
    rw [e]
    cases hc : bl.contains c
    · simp only [Bool.false_eq_true, if_false, Bool.and_false]
      rw [trimR_cons, hc, Bool.and_false]
      simp only [Bool.false_eq_true, if_false]
      unfold Lib.trimLeftS
      rw [List.dropWhile_cons, hc]
      simp
    · simp only [if_true, Bool.and_true]
      rw [ih]
      cases h : Lib.trimRightS r bl with
      | nil => rfl
      | cons a t =>
        simp only [List.isEmpty_cons, Bool.false_eq_true, if_false]
        unfold Lib.trimLeftS
        rw [List.dropWhile_cons (x := c), hc]
        simp
theorem trimL_step {y : U} {c : UInt8} (h : y[0]? = some c) (hc : c = 32 ∨ c = 9) : Lib.trimLeftS y bl = Lib.trimLeftS (y.drop 1) bl := by
  cases y with
  | nil => cases h
  | cons a r =>
    injection h with h
    subst h
    unfold Lib.trimLeftS
    rw [List.dropWhile_cons, if_pos (by rcases hc with rfl | rfl <;> decide)]
    rfl
theorem bl_no {c : UInt8} (h1 : c.toNat ≠ 32) (h2 : c.toNat ≠ 9) : bl.contains c = false := by
  rw [List.contains_eq_mem, decide_eq_false]
  intro h
  simp only [bl, List.mem_cons, List.not_mem_nil, or_false] at h
  rcases h with h | h
  · exact h1 (by rw [h]; rfl)
  · exact h2 (by rw [h]; rfl)
theorem trimL_done {y : U} (h : y = [] ∨ ∃ c : UInt8, y[0]? = some c ∧ c.toNat ≠ 32 ∧ c.toNat ≠ 9) : Lib.trimLeftS y bl = y := by
  rcases h with rfl | ⟨c, h, h1, h2⟩
  · rfl
  · cases y with
    | nil => rfl
    | cons a r =>
      injection h with h
      subst h
      unfold Lib.trimLeftS
      rw [List.dropWhile_cons, bl_no h1 h2]
      rfl
theorem rev_last {y : U} {p : Nat} {c : UInt8} (hp : p + 1 = y.length) (h : y[p]? = some c) : y = y.take p ++ [c] := by
  have h1 : y.take (p + 1) = y.take p ++ [c] := by rw [List.take_add_one, h]; rfl
  rw [← h1, hp, List.take_length]
theorem trimR_step {y : U} {p : Nat} {c : UInt8} (hp : p + 1 = y.length) (h : y[p]? = some c) (hc : c = 32 ∨ c = 9) : Lib.trimRightS y bl = Lib.trimRightS (y.take p) bl := by
  have e := rev_last hp h
  generalize y.take p = v at *
  subst e
  unfold Lib.trimRightS
  rw [List.reverse_append, List.reverse_singleton, List.singleton_append, List.dropWhile_cons, if_pos (by rcases hc with rfl | rfl <;> decide)]
theorem trimR_done {y : U} (h : y = [] ∨ ∃ (p : Nat) (c : UInt8), p + 1 = y.length ∧ y[p]? = some c ∧ c.toNat ≠ 32 ∧ c.toNat ≠ 9) : Lib.trimRightS y bl = y := by
  rcases h with rfl | ⟨p, c, hp, h, h1, h2⟩
  · rfl
  · have e := rev_last hp h
    generalize y.take p = v at *
    subst e
    unfold Lib.trimRightS
    rw [List.reverse_append, List.reverse_singleton, List.singleton_append, List.dropWhile_cons, bl_no h1 h2]
    simp
/-- A text's first byte: a blank, a tab, or none of them. -/
theorem first_cases (y : U) : (∃ c : UInt8, y[0]? = some c ∧ (c = 32 ∨ c = 9)) ∨ (y = [] ∨ ∃ c : UInt8, y[0]? = some c ∧ c.toNat ≠ 32 ∧ c.toNat ≠ 9) := by
  rcases blank_cases y with ⟨-, h⟩ | ⟨-, h⟩
  · left
    rcases h with h | h
    · exact ⟨32, h, .inl rfl⟩
    · exact ⟨9, h, .inr rfl⟩
  · exact .inr h
theorem byte_cases (c : UInt8) : c = 32 ∨ c = 9 ∨ (c.toNat ≠ 32 ∧ c.toNat ≠ 9) := by
  by_cases h1 : c = 32
  · exact .inl h1
  · by_cases h2 : c = 9
    · exact .inr (.inl h2)
    · right; right
      exact ⟨fun e => h1 (UInt8.toNat_inj.1 e), fun e => h2 (UInt8.toNat_inj.1 e)⟩

def strN : Value → Nat
  | .string s => s.size
  | _ => 0

attribute [local irreducible] Calls in
set_option maxRecDepth 8000 in
set_option maxHeartbeats 2000000 in
theorem trimmed_any (L : Option Addr) (k c : Nat) (fs : List F) (base : Nat) (w : World) (h : Fs w base 33 L k c fs) (hk : k ≤ 100000) (hsz : ∀ f ∈ fs, f.2.length ≤ 100000) :
    Calls Tryd.prog 14 #[.slice L k c] w fun e w' => e = .returned (.slice L k c) ∧ Fs w' base 33 L k c (fs.map trimV) ∧ Below base w w' := by
  have HKL := Lib.hid h.1
  have HSZ := Lib.hid hsz
  have hfs0 : Fs w base 33 L k c ((fs.take 0).map trimV ++ fs.drop 0) := h
  have HFS0 := Lib.hid hfs0
  clear h hsz hfs0
  go_enter Tryd.func14, Tryd.ntmps14
  go_wp2_with fail
  go_loopw [7] (fun v wr => ∃ i : Nat, v = .int .i64 (i : Int) ∧ i ≤ k ∧ Fs wr base 33 L k c ((fs.take i).map trimV ++ fs.drop i) ∧ Below base w wr) (fun v _ => k - (intOf v).toNat)
  case atStart => exact ⟨0, rfl, Nat.zero_le _, HFS0.out, Below.refl _ _⟩
  case round =>
    obtain ⟨i, rfl, hik, hfs, hB⟩ := hrel
    have HFSI := Lib.hid hfs
    have HBI := Lib.hid hB
    clear hfs hB
    by_cases hlt : i < k
    · obtain ⟨f, hf⟩ : ∃ f, fs[i]? = some f := ⟨_, List.getElem?_eq_getElem (by rw [HKL.out]; exact hlt)⟩
      have hfb := HSZ.out f (List.mem_of_getElem? hf)
      have hfi : ((fs.take i).map trimV ++ fs.drop i)[i]? = some f := by
        rw [List.getElem?_append_right (by simp [Nat.min_le_left]), List.length_map, List.length_take, Nat.min_eq_left (by rw [HKL.out]; omega), Nat.sub_self, List.getElem?_drop, Nat.add_zero, hf]
      obtain ⟨g, rfl, hg1, hg2⟩ := HFSI.out.some_ (by omega)
      obtain ⟨-, hcl, hfz⟩ := HFSI.out.at_ hfi
      have hset := HFSI.out.set_ hfi (Lib.trimS f.2 bl)
      have HSET : Hid (((fs.take i).map trimV ++ fs.drop i).set i (f.1, Lib.trimS f.2 bl) = (fs.take (i + 1)).map trimV ++ fs.drop (i + 1)) := by
        show _ = _
        have e1 : ((fs.take i).map trimV).length = i := by rw [List.length_map, List.length_take, Nat.min_eq_left (by rw [HKL.out]; omega)]
        have e2 : fs.drop i = f :: fs.drop (i + 1) := by
          rw [List.drop_eq_getElem_cons (by rw [HKL.out]; exact hlt)]
          congr 1
          exact (List.getElem?_eq_some_iff.1 hf).2
        rw [List.set_append_right _ _ (by omega), e1, Nat.sub_self, e2, List.set_cons_zero, List.take_add_one, hf]
        simp [trimV, bl]
      rw [HSET.out] at hset
      have HS2 := Lib.hid hset
      have HB2 := Lib.hid (below_own HBI.out hg1 (i * 2 + 1) (.string (st (Lib.trimS f.2 bl))))
      have HT : Hid (Lib.trimS f.2 bl = Lib.trimRightS (Lib.trimLeftS f.2 bl) bl) := by show _ = _; rw [trim_comm]; rfl
      have HFI := Lib.hid hfi
      clear hf hfi hset HSET
      obtain ⟨z, hz⟩ : ∃ z, z = f.2 := ⟨_, rfl⟩
      rw [← hz] at hfb hcl HT HS2 HB2
      clear hz
      obtain ⟨zt, hzt⟩ : ∃ zt, zt = Lib.trimS z bl := ⟨_, rfl⟩
      rw [← hzt] at HT HS2 HB2
      clear hzt
      go_wp2_with fail
      go_loop [4] (fun v => ∃ y : U, v = .string (st y) ∧ y.length ≤ 100000 ∧ Lib.trimLeftS z bl = Lib.trimLeftS y bl) (fun v => strN v)
      case atStart => exact ⟨z, rfl, hfb, rfl⟩
      case round =>
        clear hcl hfz
        obtain ⟨y, rfl, hyl, hyt⟩ := hrel
        have HY := Lib.hid hyt
        have hys := st_size y
        clear hyt
        rcases first_cases y with ⟨x, hx, hxb⟩ | hno
        · have HX := Lib.hid (trimL_step hx hxb)
          have he := st_empty_f hx
          have hl1 : 1 ≤ y.length := (List.getElem?_eq_some_iff.1 hx).1
          obtain ⟨d, hd⟩ : ∃ d, d = y.drop 1 := ⟨_, rfl⟩
          have sl : ∀ W, (Instr.slice 9 (.string (st y)) (some (.int .i64 1)) none none).run Tryd.prog W = .ok (.string (st d)) W := fun W => by rw [hd]; exact slice_st_l y 1 hl1 W
          have HM : Hid ((st d).size < (st y).size) := by show _ < _; rw [hd, st_size, st_size, List.length_drop]; omega
          have HDL : Hid (d.length ≤ 100000) := by show _ ≤ _; rw [hd, List.length_drop]; omega
          rw [← hd] at HX
          have hi : (∀ W, (Instr.index 9 (.string (st y)) (.int .i64 0)).run Tryd.prog W = .ok (.int .u8 32) W) ∨ (∀ W, (Instr.index 9 (.string (st y)) (.int .i64 0)).run Tryd.prog W = .ok (.int .u8 9) W) := by
            rcases hxb with rfl | rfl
            · exact .inl (st_at32 hx)
            · exact .inr (st_at9 hx)
          clear hx hxb hd
          rcases hi with hi | hi
          all_goals
            go_wp2_with fail
            go_round
            case rel => exact ⟨d, rfl, HDL.out, by rw [HY.out, HX.out]⟩
            case measure => exact HM.out
        · have HD := Lib.hid (trimL_done hno)
          have hE : ((st y).toList.isEmpty = true) ∨ ((st y).toList.isEmpty = false ∧ ∃ x : Nat, (∀ W, (Instr.index 9 (.string (st y)) (.int .i64 0)).run Tryd.prog W = .ok (.int .u8 (x : Int)) W) ∧ ((x : Int) == 32) = false ∧ ((x : Int) == 9) = false) := by
            rcases hno with hy | ⟨x, hy, hy1, hy2⟩
            · left; rw [hy]; exact st_empty_t
            · right
              exact ⟨st_empty_f hy, x.toNat, st_at0 hy, by rw [beq_eq_false_iff_ne]; omega, by rw [beq_eq_false_iff_ne]; omega⟩
          clear hno
          rcases hE with he | ⟨he, x, hi, t1, t2⟩
          all_goals
            go_wp2_with fail
            go_loop [4] (fun v => ∃ r : U, v = .string (st r) ∧ r.length ≤ 100000 ∧ zt = Lib.trimRightS r bl) (fun v => strN v)
            case atStart => exact ⟨y, rfl, hyl, by rw [HT.out, HY.out, HD.out]⟩
            case round =>
              clear he HD HY
              try clear hi t1 t2
              obtain ⟨r, rfl, hrl, hrt⟩ := hrel
              have HR := Lib.hid hrt
              have hrs := st_size r
              clear hrt
              by_cases hr0 : 0 < r.length
              · obtain ⟨p, hp⟩ : ∃ p, p + 1 = r.length := ⟨r.length - 1, by omega⟩
                obtain ⟨b, hb⟩ : ∃ b, r[p]? = some b := ⟨_, List.getElem?_eq_getElem (by omega)⟩
                have hpe := Lib.hid hp
                have hbe := Lib.hid hb
                have hre : (st r).toList.isEmpty = false := by
                  rw [ByteArray.toList_eq, st_data]
                  cases r with
                  | nil => simp at hr0
                  | cons _ _ => rfl
                have x1 : (r.length : Int) - 1 = (p : Int) := by omega
                have x1' : IntKind.i64.wrap (p : Int) = (p : Int) := by rw [IntKind.wrap_i64]; omega
                have hpl : p < r.length := by omega
                have hix := fun W => st_at r hb W
                obtain ⟨d, hd⟩ : ∃ d, d = r.take p := ⟨_, rfl⟩
                have sl : ∀ W, (Instr.slice 9 (.string (st r)) none (some (.int .i64 (p : Int))) none).run Tryd.prog W = .ok (.string (st d)) W := fun W => by rw [hd]; exact slice_st_h r p (by omega) W
                have HM : Hid ((st d).size < (st r).size) := by show _ < _; rw [hd, st_size, st_size, List.length_take]; omega
                have HDL : Hid (d.length ≤ 100000) := by show _ ≤ _; rw [hd, List.length_take]; omega
                have HX : (b = 32 ∨ b = 9) → Hid (Lib.trimRightS r bl = Lib.trimRightS d bl) := fun hbb => by show _ = _; rw [hd]; exact trimR_step hp hb hbb
                clear hd hp hb
                rcases byte_cases b with h32 | h9 | ⟨hn1, hn2⟩
                · have HX1 := HX (.inl h32)
                  rw [h32] at hix
                  have hix2 : ∀ W, (Instr.index 9 (.string (st r)) (.int .i64 (p : Int))).run Tryd.prog W = .ok (.int .u8 32) W := hix
                  clear HX h32 hix
                  go_wp2_with fail
                  go_round
                  case rel => exact ⟨d, rfl, HDL.out, by rw [HR.out, HX1.out]⟩
                  case measure => exact HM.out
                · have HX1 := HX (.inr h9)
                  rw [h9] at hix
                  have hix2 : ∀ W, (Instr.index 9 (.string (st r)) (.int .i64 (p : Int))).run Tryd.prog W = .ok (.int .u8 9) W := hix
                  clear HX h9 hix
                  go_wp2_with fail
                  go_round
                  case rel => exact ⟨d, rfl, HDL.out, by rw [HR.out, HX1.out]⟩
                  case measure => exact HM.out
                · have HZ : Hid (r = zt) := by show _ = _; rw [HR.out]; exact (trimR_done (.inr ⟨p, b, hpe.out, hbe.out, hn1, hn2⟩)).symm
                  have q1 : ((b.toNat : Int) == 32) = false := by rw [beq_eq_false_iff_ne]; omega
                  have q2 : ((b.toNat : Int) == 9) = false := by rw [beq_eq_false_iff_ne]; omega
                  obtain ⟨bn, hbn⟩ : ∃ bn, bn = b.toNat := ⟨_, rfl⟩
                  rw [← hbn] at hix q1 q2
                  obtain ⟨-, hcl, hfz⟩ := HFSI.out.at_ HFI.out
                  clear HX hn1 hn2 hbn sl
                  go_wp2_with fail
                  go_roundw
                  case rel => exact ⟨i + 1, by go_num, hlt, by rw [HZ.out]; exact HS2.out, by rw [HZ.out]; exact HB2.out⟩
                  case measure => simp [intOf]; omega
              · have HZ : Hid (r = zt) := by show _ = _; rw [HR.out]; exact (trimR_done (.inl (List.eq_nil_of_length_eq_zero (by omega)))).symm
                have hre : (st r).toList.isEmpty = true := by rw [List.eq_nil_of_length_eq_zero (show r.length = 0 by omega)]; exact st_empty_t
                obtain ⟨-, hcl, hfz⟩ := HFSI.out.at_ HFI.out
                go_wp2_with fail
                go_roundw
                case rel => exact ⟨i + 1, by go_num, hlt, by rw [HZ.out]; exact HS2.out, by rw [HZ.out]; exact HB2.out⟩
                case measure => simp [intOf]; omega
    · obtain rfl : i = k := by omega
      have hfin := HFSI.out
      rw [List.take_of_length_le (by rw [HKL.out]; exact Nat.le_refl _), List.drop_of_length_le (by rw [HKL.out]; exact Nat.le_refl _), List.append_nil] at hfin
      have HF := Lib.hid hfin
      clear hfin
      go_wp2
      go_ret
      exact ⟨rfl, HF.out, HBI.out⟩
end Go.Proofs.YtigkjjbdbficnaaDoor
