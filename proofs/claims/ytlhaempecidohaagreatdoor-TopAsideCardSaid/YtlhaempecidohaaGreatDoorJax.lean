/-
  Package name: plain, Norm. Packages body, index: named. Package date: civil, two, month, Print. Package date: the day of a number of days. The package-level variables that the library reads: what stays of them. Package date: two, Print. Package body: bare, rightMsg, Formed.
-/
import Derived.Test.YtlhaempecidohaaGreatDoorJak
import Derived.Test.YtlhaempecidohaaGreatDoorJae
import Derived.Test.YtlhaempecidohaaGreatDoorJaw
import Derived.Lib.AppendIntMem
import Derived.Lib.ItoaLen
set_option linter.unusedSimpArgs false
set_option linter.unusedVariables false
namespace Go.Proofs.YtlhaempecidohaaGreatDoor
open Go.RowKit
theorem str_eqb (a b : ByteArray) : (a.toList == b.toList) = decide (a = b) := by
  by_cases h : a = b
  · subst h; simp
  · rw [decide_eq_false h, beq_eq_false_iff_ne]
    intro e
    apply h
    rw [ByteArray.toList_eq, ByteArray.toList_eq] at e
    exact ByteArray.ext (Array.toList_inj.1 e)
theorem ret_bool {a b : Bool} (h : a = b) : Ending.returned (.bool a) = .returned (.bool b) := by rw [h]
set_option maxHeartbeats 1000000 in
theorem plain_any (c : Nat) (w : World) : Calls Tryz.prog 201 #[.int .u8 (c : Int)] w fun e w' => e = .returned (.bool (plainB c)) ∧ w = w' := by
  go_enter Tryz.func201, Tryz.ntmps201
  go_wp2
  all_goals (go_ret; exact ⟨ret_bool (by rw [Bool.eq_iff_iff]; simp [plainB]; try omega), rfl⟩)
/-- what Norm hands back -/
def NormR (s : ByteArray) (w : World) (e : Ending) (w' : World) : Prop :=
  ∃ q ok, e = .returned (.tuple #[.string q, .bool ok]) ∧ (ok && decide (q = s)) = named s ∧ Below w.heap.size w w'
theorem NormR.no {s : ByteArray} {w w' : World} (h : normalS s = false) (hb : Below w.heap.size w w') : NormR s w (.returned (.tuple #[.string ⟨#[]⟩, .bool false])) w' :=
  ⟨_, false, rfl, by unfold named; rw [h]; rfl, hb⟩
set_option maxRecDepth 8000 in
set_option maxHeartbeats 2000000 in
theorem norm_any (s : ByteArray) (hs : s.size ≤ 1000000) (k0 : Int) (w : World) (hm : w.cell? ⟨0, 0, none⟩ = some (.int .i64 k0)) : Calls Tryz.prog 146 #[.string s] w (NormR s w) := by
  by_cases h60 : 60 < s.size
  · have hn := Lib.hid (show normalS s = false by unfold normalS; rw [decide_eq_false (by omega)]; rfl)
    go_enter Tryz.func146, Tryz.ntmps146
    go_wp2
    go_ret2
    exact NormR.no hn.out (Below.refl _ _)
  · have hsplit := Tryz.strings_Split s slashS k0 w (by omega) hm (by decide)
    have hl : (partsS s).length = Lib.countB s slashS + 1 := Lib.splitB_all slashS (by decide) 0 _ s rfl
    have hnn : normalS s = (partsS s).all partOk := by unfold normalS; rw [decide_eq_true (by omega), Bool.true_and]
    change Calls Tryz.prog 200 #[.string s, .string slashS] w fun e w' => e = .returned (.slice (some ⟨w.heap.size, 0, none⟩) (Lib.countB s slashS + 1) (Lib.countB s slashS + 1)) ∧ w' = w.alloc (.cells ((partsS s).map Value.string).toArray 9) at hsplit
    rw [← hl] at hsplit
    have hlen : (partsS s).length ≤ 2000000 := by
      have := Lib.countB_le slashS (by decide) s.size s (Nat.le_refl _)
      omega
    obtain ⟨P, hP⟩ : ∃ P, P = partsS s := ⟨_, rfl⟩
    rw [← hP] at hsplit hnn hlen
    have HP := Lib.hid hP
    have HNN := Lib.hid hnn
    have HM := Lib.hid hm
    clear hl hP hnn hm
    go_enter Tryz.func146, Tryz.ntmps146
    go_wp2_with (go_at_call 200; refine hsplit.mono ?_; rintro e w' ⟨rfl, rfl⟩)
    have hcell : ∀ (i : Nat) p, P[i]? = some p → (w.alloc (.cells (P.map Value.string).toArray 9)).cell? ⟨w.heap.size, i, none⟩ = some (.string p) := fun i p hp => by
      rw [cell_of_row _ _ i _ 9 (0, 0) (heap_alloc_new w _)]
      simp [hp]
    have hb1 : Below w.heap.size w (w.alloc (.cells (P.map Value.string).toArray 9)) := (Below.refl _ _).alloc (Nat.le_refl _) _
    generalize w.alloc (.cells (P.map Value.string).toArray 9) = w1 at *
    have HB1 := Lib.hid hb1
    have HC := Lib.hid hcell
    clear hb1 hcell hsplit
    go_loop [13] (fun i => ∃ k : Nat, k ≤ P.length ∧ i = .int .i64 k ∧ ∀ p ∈ P.take k, partOk p = true) (fun i => P.length - (intOf i).toNat)
    case atStart => exact ⟨0, Nat.zero_le _, rfl, by simp⟩
    case round =>
      obtain ⟨k, hk, rfl, hall⟩ := hrel
      have HALL := Lib.hid hall
      clear hall
      by_cases hlt : k < P.length
      · obtain ⟨p, hp⟩ : ∃ p, P[k]? = some p := ⟨_, List.getElem?_eq_getElem hlt⟩
        have hcp := HC.out k p hp
        have HPK := Lib.hid hp
        have hTK := Lib.hid (show P.take (k + 1) = P.take k ++ [p] by rw [List.take_add_one, hp]; rfl)
        have hpsz : p.size ≤ 1000000 := by
          have := parts_le (s := s) (p := p) (by rw [← HP.out]; exact List.mem_of_getElem? hp)
          omega
        clear hp
        by_cases h0 : p.size = 0
        · have hno := Lib.hid (show normalS s = false by
            rw [HNN.out, List.all_eq_false]
            exact ⟨p, List.mem_of_getElem? HPK.out, by unfold partOk; rw [decide_eq_true h0]; simp⟩)
          obtain rfl : p = ⟨#[]⟩ := ByteArray.ext (Array.eq_empty_of_size_eq_zero h0)
          clear h0
          go_wp2
          go_ret2
          exact NormR.no hno.out HB1.out
        · have he : ¬ p.toList = [] := by
            rw [ByteArray.toList_eq]
            intro e
            apply h0
            have := congrArg List.length e
            rw [Array.length_toList] at this
            exact this
          have he2 : p.toList.isEmpty = false := by
            cases hq : p.toList with
            | nil => exact absurd hq he
            | cons a b => rfl
          go_wp2
          go_loop [21] (fun i => ∃ j : Nat, j ≤ p.size ∧ i = .int .i64 j ∧ ∀ x ∈ (ofStr p).take j, plainB x = true) (fun i => p.size - (intOf i).toNat)
          case atStart => exact ⟨0, Nat.zero_le _, rfl, by simp⟩
          case round =>
            obtain ⟨j, hj, rfl, hpl⟩ := hrel
            have HPL := Lib.hid hpl
            clear hpl
            by_cases hjl : j < p.size
            · obtain ⟨x, hx, hx2, hix⟩ := ofStr_at p j hjl
              have hTJ := Lib.hid (show (ofStr p).take (j + 1) = (ofStr p).take j ++ [x] by rw [List.take_add_one, hx]; rfl)
              have HX := Lib.hid hx
              clear hx
              cases hpx : plainB x with
              | true =>
                have hpc := plain_any x w1
                rw [hpx] at hpc
                have HPX := Lib.hid hpx
                clear hpx
                go_wp2_with (go_at_call 201; refine hpc.mono ?_; rintro e w' ⟨rfl, rfl⟩)
                go_round
                case rel =>
                  refine ⟨j + 1, by omega, by go_num, fun y hy => ?_⟩
                  rw [hTJ.out] at hy
                  rcases List.mem_append.1 hy with hy | hy
                  · exact HPL.out y hy
                  · rw [List.mem_singleton.1 hy]; exact HPX.out
                case measure => simp [intOf]; omega
              | false =>
                have hpc := plain_any x w1
                rw [hpx] at hpc
                have hno := Lib.hid (show normalS s = false by
                  rw [HNN.out, List.all_eq_false]
                  refine ⟨p, List.mem_of_getElem? HPK.out, ?_⟩
                  unfold partOk
                  simp only [Bool.and_eq_true, not_and, Bool.not_eq_true]
                  intro _
                  rw [List.all_eq_false]
                  exact ⟨x, List.mem_of_getElem? HX.out, by rw [hpx]; decide⟩)
                clear hpx
                go_wp2_with (go_at_call 201; refine hpc.mono ?_; rintro e w' ⟨rfl, rfl⟩)
                go_ret2
                exact NormR.no hno.out HB1.out
            · obtain rfl : j = p.size := by omega
              have hok : Hid (partOk p = true) := by
                show _ = _
                unfold partOk
                rw [decide_eq_false h0, Bool.not_false, Bool.true_and, List.all_eq_true]
                have := HPL.out
                rw [List.take_of_length_le (by rw [ofStr_length]; exact Nat.le_refl _)] at this
                exact this
              go_wp2
              go_round
              case rel =>
                refine ⟨k + 1, by omega, by go_num, fun q hq => ?_⟩
                rw [hTK.out] at hq
                rcases List.mem_append.1 hq with hq | hq
                · exact HALL.out q hq
                · rw [List.mem_singleton.1 hq]; exact hok.out
              case measure => simp [intOf]; omega
      · obtain rfl : k = P.length := by omega
        have hall := HALL.out
        rw [List.take_length] at hall
        have hup := Tryz.strings_ToUpper_ascii s w1 (by omega) (normal_ascii (by rw [← HP.out]; exact hall))
        change Calls Tryz.prog 202 #[.string s] w1 fun e w' => e = .returned (.string (upS s)) ∧ Below w1.heap.size w1 w' at hup
        have hnorm := Lib.hid (show normalS s = true by rw [HNN.out, List.all_eq_true]; exact hall)
        clear hall
        obtain ⟨U, hU⟩ : ∃ U, U = upS s := ⟨_, rfl⟩
        rw [← hU] at hup
        have hq : (U.toList == [73, 78, 66, 79, 88]) = decide (U = inboxS) := by
          have := str_eqb U inboxS
          rwa [show inboxS.toList = [73, 78, 66, 79, 88] by decide +kernel] at this
        have HU := Lib.hid hU
        clear hU
        by_cases hin : U = inboxS
        · rw [decide_eq_true hin] at hq
          have HIN := Lib.hid hin
          clear hin
          go_wp2_with (go_at_call 202; refine hup.mono ?_; rintro e w2 ⟨rfl, hb2⟩)
          go_ret2
          refine ⟨inboxS, true, rfl, ?_, HB1.out.trans (hb2.mono HB1.out.size)⟩
          unfold named
          rw [hnorm.out, ← HU.out, HIN.out]
          by_cases h : s = inboxS
          · subst h; simp
          · have h' : ¬ inboxS = s := fun e => h e.symm
            simp [h, h']
        · rw [decide_eq_false hin] at hq
          have HIN := Lib.hid hin
          clear hin
          go_wp2_with (go_at_call 202; refine hup.mono ?_; rintro e w2 ⟨rfl, hb2⟩)
          go_ret2
          refine ⟨s, true, rfl, ?_, HB1.out.trans (hb2.mono HB1.out.size)⟩
          unfold named
          rw [hnorm.out, ← HU.out, decide_eq_false HIN.out]
          simp
end Go.Proofs.YtlhaempecidohaaGreatDoor
namespace Go.Proofs.YtlhaempecidohaaGreatDoor
open Go.RowKit
set_option maxHeartbeats 1000000 in
theorem bnamed (s : ByteArray) (hs : s.size ≤ 1000000) (k0 : Int) (w : World) (hm : w.cell? ⟨0, 0, none⟩ = some (.int .i64 k0)) :
    Calls Tryz.prog 206 #[.string s] w fun e w' => e = .returned (.bool (named s)) ∧ Below w.heap.size w w' := by
  have hn := norm_any s hs k0 w hm
  clear hm
  go_enter Tryz.func206, Tryz.ntmps206
  go_wp2_with fail
  refine hn.mono ?_
  rintro e w1 ⟨q, ok, rfl, hv, hb⟩
  cases ok
  · have HV := Lib.hid hv
    clear hv
    go_wp2
    go_ret
    exact ⟨by rw [← HV.out]; rfl, hb⟩
  · rw [Bool.true_and, ← str_eqb] at hv
    have HV := Lib.hid hv
    clear hv
    go_wp2
    go_ret
    exact ⟨by rw [← HV.out]; rfl, hb⟩
set_option maxHeartbeats 1000000 in
theorem inamed (s : ByteArray) (hs : s.size ≤ 1000000) (k0 : Int) (w : World) (hm : w.cell? ⟨0, 0, none⟩ = some (.int .i64 k0)) :
    Calls Tryz.prog 196 #[.string s] w fun e w' => e = .returned (.bool (named s)) ∧ Below w.heap.size w w' := by
  have hn := norm_any s hs k0 w hm
  clear hm
  go_enter Tryz.func196, Tryz.ntmps196
  go_wp2_with fail
  refine hn.mono ?_
  rintro e w1 ⟨q, ok, rfl, hv, hb⟩
  cases ok
  · have HV := Lib.hid hv
    clear hv
    go_wp2
    go_ret
    exact ⟨by rw [← HV.out]; rfl, hb⟩
  · rw [Bool.true_and, ← str_eqb] at hv
    have HV := Lib.hid hv
    clear hv
    go_wp2
    go_ret
    exact ⟨by rw [← HV.out]; rfl, hb⟩
end Go.Proofs.YtlhaempecidohaaGreatDoor
namespace Go.Proofs.YtlhaempecidohaaGreatDoor
open Go.RowKit
theorem civ1 (f : Int) (h0 : 0 ≤ f) (h1 : f ≤ 146096) : 0 ≤ (f - f/1460 + f/36524 - f/146096)/365 ∧ (f - f/1460 + f/36524 - f/146096)/365 ≤ 399 := by omega
theorem civ2g (f e i j g : Int) (hg : g = 0 ∨ g = 1 ∨ g = 2 ∨ g = 3) (h0 : 36524*g ≤ f) (h1 : f ≤ 36524*g + 36523) (e0 : 1460*e ≤ f) (e1 : f ≤ 1460*e + 1459)
    (i0 : 365*i ≤ f - e + g) (i1 : f - e + g ≤ 365*i + 364) (j0 : 4*j ≤ i) (j1 : i ≤ 4*j+3) :
    100*g ≤ i ∧ i ≤ 100*g + 99 ∧ 0 ≤ f - (365*i + j - g) ∧ f - (365*i + j - g) ≤ 365 := by
  rcases hg with rfl | rfl | rfl | rfl
  · have a1 : 0 ≤ i ∧ i ≤ 99 := by omega
    have a2 : j ≤ e ∧ e ≤ j + 1 := by omega
    omega
  · have a1 : 100 ≤ i ∧ i ≤ 199 := by omega
    have a2 : j ≤ e ∧ e ≤ j + 1 := by omega
    omega
  · have a1 : 200 ≤ i ∧ i ≤ 299 := by omega
    have a2 : j ≤ e ∧ e ≤ j + 1 := by omega
    omega
  · have a1 : 300 ≤ i ∧ i ≤ 399 := by omega
    have a2 : j ≤ e ∧ e ≤ j + 1 := by omega
    omega
theorem civ2 (f : Int) (h0 : 0 ≤ f) (h1 : f ≤ 146096) : 0 ≤ f - (365*((f - f/1460 + f/36524 - f/146096)/365) + ((f - f/1460 + f/36524 - f/146096)/365)/4 - ((f - f/1460 + f/36524 - f/146096)/365)/100) ∧ f - (365*((f - f/1460 + f/36524 - f/146096)/365) + ((f - f/1460 + f/36524 - f/146096)/365)/4 - ((f - f/1460 + f/36524 - f/146096)/365)/100) ≤ 365 := by
  by_cases hf : f = 146096
  · subst hf; decide
  · have hc : f/146096 = 0 := by omega
    rw [hc]
    obtain ⟨g, hg⟩ : ∃ g, g = f/36524 := ⟨_, rfl⟩
    obtain ⟨e, he⟩ : ∃ e, e = f/1460 := ⟨_, rfl⟩
    obtain ⟨i, hi⟩ : ∃ i, i = (f - e + g - 0)/365 := ⟨_, rfl⟩
    obtain ⟨j, hj⟩ : ∃ j, j = i/4 := ⟨_, rfl⟩
    have hgc : g = 0 ∨ g = 1 ∨ g = 2 ∨ g = 3 := by omega
    have := civ2g f e i j g hgc (by omega) (by omega) (by omega) (by omega) (by omega) (by omega) (by omega) (by omega)
    have hk : i/100 = g := by omega
    rw [← hg, ← he, ← hi, ← hj, hk]
    omega
/-- what civil hands back -/
def Civil (w : World) (e : Ending) (w' : World) : Prop := ∃ y m d : Int, e = .returned (.tuple #[.int .i64 y, .int .i64 m, .int .i64 d]) ∧ 0 ≤ y ∧ y ≤ 20000 ∧ 1 ≤ m ∧ m ≤ 12 ∧ 1 ≤ d ∧ d ≤ 31 ∧ w = w'
set_option maxRecDepth 8000 in
set_option maxHeartbeats 2000000 in
theorem civil_any (d : Int) (h0 : 0 ≤ d) (h1 : d ≤ 2932896) (w : World) : Calls Tryz.prog 161 #[.int .i64 d] w (Civil w) := by
  obtain ⟨z, hz⟩ : ∃ t : Int, d + 719468 = t := ⟨_, rfl⟩
  obtain ⟨era, hera⟩ : ∃ t : Int, z / 146097 = t := ⟨_, rfl⟩
  obtain ⟨p1, hp1⟩ : ∃ t : Int, era * 146097 = t := ⟨_, rfl⟩
  obtain ⟨f, hf⟩ : ∃ t : Int, z - p1 = t := ⟨_, rfl⟩
  obtain ⟨a1, ha1⟩ : ∃ t : Int, f / 1460 = t := ⟨_, rfl⟩
  obtain ⟨a2, ha2⟩ : ∃ t : Int, f - a1 = t := ⟨_, rfl⟩
  obtain ⟨a3, ha3⟩ : ∃ t : Int, f / 36524 = t := ⟨_, rfl⟩
  obtain ⟨a4, ha4⟩ : ∃ t : Int, a2 + a3 = t := ⟨_, rfl⟩
  obtain ⟨a5, ha5⟩ : ∃ t : Int, f / 146096 = t := ⟨_, rfl⟩
  obtain ⟨a6, ha6⟩ : ∃ t : Int, a4 - a5 = t := ⟨_, rfl⟩
  obtain ⟨y, hy⟩ : ∃ t : Int, a6 / 365 = t := ⟨_, rfl⟩
  obtain ⟨b1, hb1⟩ : ∃ t : Int, 365 * y = t := ⟨_, rfl⟩
  obtain ⟨b2, hb2⟩ : ∃ t : Int, y / 4 = t := ⟨_, rfl⟩
  obtain ⟨b3, hb3⟩ : ∃ t : Int, b1 + b2 = t := ⟨_, rfl⟩
  obtain ⟨b4, hb4⟩ : ∃ t : Int, y / 100 = t := ⟨_, rfl⟩
  obtain ⟨b5, hb5⟩ : ∃ t : Int, b3 - b4 = t := ⟨_, rfl⟩
  obtain ⟨day, hday⟩ : ∃ t : Int, f - b5 = t := ⟨_, rfl⟩
  obtain ⟨c1, hc1⟩ : ∃ t : Int, 5 * day = t := ⟨_, rfl⟩
  obtain ⟨c2, hc2⟩ : ∃ t : Int, c1 + 2 = t := ⟨_, rfl⟩
  obtain ⟨mm, hmm⟩ : ∃ t : Int, c2 / 153 = t := ⟨_, rfl⟩
  obtain ⟨g1, hg1⟩ : ∃ t : Int, 153 * mm = t := ⟨_, rfl⟩
  obtain ⟨g2, hg2⟩ : ∃ t : Int, g1 + 2 = t := ⟨_, rfl⟩
  obtain ⟨g3, hg3⟩ : ∃ t : Int, g2 / 5 = t := ⟨_, rfl⟩
  obtain ⟨g4, hg4⟩ : ∃ t : Int, day - g3 = t := ⟨_, rfl⟩
  obtain ⟨dd, hdd⟩ : ∃ t : Int, g4 + 1 = t := ⟨_, rfl⟩
  obtain ⟨r1, hr1⟩ : ∃ t : Int, era * 400 = t := ⟨_, rfl⟩
  obtain ⟨r2, hr2⟩ : ∃ t : Int, y + r1 = t := ⟨_, rfl⟩
  obtain ⟨r3, hr3⟩ : ∃ t : Int, r2 + 1 = t := ⟨_, rfl⟩
  obtain ⟨m1, hm1⟩ : ∃ t : Int, mm + 3 = t := ⟨_, rfl⟩
  obtain ⟨m2, hm2⟩ : ∃ t : Int, mm - 9 = t := ⟨_, rfl⟩
  have k_z : 719468 ≤ z ∧ z ≤ 3652364 := by omega
  have k_era : 0 ≤ era ∧ era ≤ 25 := by omega
  have k_p1 : 0 ≤ p1 ∧ p1 ≤ 3652425 := by omega
  have k_f : 0 ≤ f ∧ f ≤ 146096 := by omega
  have k_a1 : 0 ≤ a1 ∧ a1 ≤ 1000 := by omega
  have k_a2 : 0 ≤ a2 ∧ a2 ≤ 146096 := by omega
  have k_a3 : 0 ≤ a3 ∧ a3 ≤ 10 := by omega
  have k_a4 : 0 ≤ a4 ∧ a4 ≤ 200000 := by omega
  have k_a5 : 0 ≤ a5 ∧ a5 ≤ 1 := by omega
  have k_a6 : 0 ≤ a6 ∧ a6 ≤ 200000 := by omega
  have k_y : 0 ≤ y ∧ y ≤ 399 := by
    have := civ1 f k_f.1 k_f.2
    rw [← hy, ← ha6, ← ha4, ← ha2, ← ha1, ← ha3, ← ha5]; exact this
  have k_b1 : 0 ≤ b1 ∧ b1 ≤ 200000 := by omega
  have k_b2 : 0 ≤ b2 ∧ b2 ≤ 100 := by omega
  have k_b3 : 0 ≤ b3 ∧ b3 ≤ 200000 := by omega
  have k_b4 : 0 ≤ b4 ∧ b4 ≤ 4 := by omega
  have k_b5 : -10 ≤ b5 ∧ b5 ≤ 200000 := by omega
  have k_day : 0 ≤ day ∧ day ≤ 365 := by
    have := civ2 f k_f.1 k_f.2
    rw [ha1, ha2, ha3, ha4, ha5, ha6, hy, hb1, hb2, hb3, hb4, hb5, hday] at this; exact this
  have k_c1 : 0 ≤ c1 ∧ c1 ≤ 2000 := by omega
  have k_c2 : 0 ≤ c2 ∧ c2 ≤ 2000 := by omega
  have k_mm : 0 ≤ mm ∧ mm ≤ 11 := by omega
  have k_g1 : 0 ≤ g1 ∧ g1 ≤ 2000 := by omega
  have k_g2 : 0 ≤ g2 ∧ g2 ≤ 2000 := by omega
  have k_g3 : 0 ≤ g3 ∧ g3 ≤ 400 := by omega
  have k_g4 : 0 ≤ g4 ∧ g4 ≤ 30 := by omega
  have k_dd : 1 ≤ dd ∧ dd ≤ 31 := by omega
  have k_r1 : 0 ≤ r1 ∧ r1 ≤ 10000 := by omega
  have k_r2 : 0 ≤ r2 ∧ r2 ≤ 11000 := by omega
  have k_r3 : 0 ≤ r3 ∧ r3 ≤ 11001 := by omega
  by_cases hm10 : mm < 10
  · go_enter Tryz.func161, Tryz.ntmps161
    go_wp2
    go_ret3
    exact ⟨r2, m1, dd, rfl, by omega, by omega, by omega, by omega, by omega, by omega, rfl⟩
  · go_enter Tryz.func161, Tryz.ntmps161
    go_wp2
    go_ret3
    exact ⟨r3, m2, dd, rfl, by omega, by omega, by omega, by omega, by omega, by omega, rfl⟩
/-- a text that is no longer than that, and not empty -/
def Txt (n : Nat) (s : ByteArray) : Prop := 1 ≤ s.size ∧ s.size ≤ n
set_option maxRecDepth 8000 in
set_option maxHeartbeats 1000000 in
theorem month_any (m : Int) (h1 : 1 ≤ m) (h2 : m ≤ 12) (w : World) : Calls Tryz.prog 163 #[.int .i64 m] w fun e w' => ∃ s, e = .returned (.string s) ∧ Txt 3 s ∧ w = w' := by
  have hc : m = 1 ∨ m = 2 ∨ m = 3 ∨ m = 4 ∨ m = 5 ∨ m = 6 ∨ m = 7 ∨ m = 8 ∨ m = 9 ∨ m = 10 ∨ m = 11 ∨ m = 12 := by omega
  rcases hc with rfl | rfl | rfl | rfl | rfl | rfl | rfl | rfl | rfl | rfl | rfl | rfl
  all_goals
    go_enter Tryz.func163, Tryz.ntmps163
    go_wp2
    go_ret
    exact ⟨_, rfl, ⟨by decide, by decide⟩, rfl⟩
end Go.Proofs.YtlhaempecidohaaGreatDoor
namespace Go.Proofs.YtlhaempecidohaaGreatDoor
open Go.RowKit
structure Env (w : World) : Prop where
  maxlen : ∃ k, w.cell? ⟨0, 0, none⟩ = some (.int .i64 k)
  tab : Lib.TabIs Tryz.prog w "internal/strconv.uint64pow10" .u64 Lib.pow10Tab
  err : ∃ tp p, w.var? Tryz.prog "strconv.ErrSyntax" = some #[.iface tp p]
theorem Tryz.gTab : Tryz.prog.globalNamed "internal/strconv.uint64pow10" = some 3 := by kernel_rfl
theorem Tryz.gErr : Tryz.prog.globalNamed "strconv.ErrSyntax" = some 1 := by kernel_rfl
theorem var_only {S : Nat → Prop} {w w' : World} (ho : Only S w w') {n : String} {g : Nat} (hg : Tryz.prog.globalNamed n = some g) (hS : ¬ S g) {cs : Array Value} (h : w.var? Tryz.prog n = some cs) : w'.var? Tryz.prog n = some cs := by
  unfold World.var? at h ⊢
  rw [hg] at h ⊢
  simp only [Option.bind_some] at h ⊢
  cases hh : w.heap[g]? with
  | none => rw [hh] at h; cases h
  | some o => rw [ho.heap hh hS]; rw [hh] at h; exact h
theorem Env.only {S : Nat → Prop} {w w' : World} (h : Env w) (ho : Only S w w') (hS : ∀ b, S b → 9 ≤ b) : Env w' := by
  obtain ⟨k, hk⟩ := h.maxlen
  obtain ⟨tp, p, he⟩ := h.err
  exact ⟨⟨k, ho.cell hk (fun e => by have := hS _ e; simp at this)⟩, var_only ho Tryz.gTab (fun e => by have := hS _ e; omega) h.tab, ⟨tp, p, var_only ho Tryz.gErr (fun e => by have := hS _ e; omega) he⟩⟩
theorem Env.below {w w' : World} (h : Env w) (hb : Below w.heap.size w w') : Env w' := h.only (Only.of_below hb (fun _ => False)) (fun _ h => h.elim)
theorem Env.drew {w : World} (h : Env w) : Env w.drew := ⟨h.maxlen, h.tab, h.err⟩
theorem Env.drewN {w : World} (h : Env w) (n : Nat) : Env (w.drewN n) := ⟨h.maxlen, h.tab, h.err⟩
theorem dec3 : ∀ n < 100, (Lib.decDigits (100 + n)).length = 3 := by decide +kernel
theorem itoa3 (n : Nat) (h : n < 100) : (Lib.itoa ((100 + n : Nat) : Int)).length = 3 := by
  unfold Lib.itoa
  rw [if_neg (by omega), Int.toNat_natCast, dec3 n h]
set_option maxRecDepth 8000 in
set_option maxHeartbeats 1000000 in
theorem two_any (n : Nat) (h1 : n < 100) (w : World) (hE : Env w) : Calls Tryz.prog 162 #[.int .i64 (n : Int)] w fun e w' => ∃ s, e = .returned (.string s) ∧ s.size = 2 ∧ Below w.heap.size w w' := by
  have h3 := itoa3 n h1
  obtain ⟨q, hq⟩ : ∃ q, q = 100 + n := ⟨_, rfl⟩
  rw [← hq] at h3
  have hf := Tryz.strconv_FormatInt_10 (q : Int) (by omega) (by omega) w hE.tab
  obtain ⟨l, hl⟩ : ∃ l, l = Lib.itoa (q : Int) := ⟨_, rfl⟩
  rw [← hl] at hf h3
  obtain ⟨s, hs⟩ : ∃ s : ByteArray, s = ⟨l.toArray⟩ := ⟨_, rfl⟩
  have h3' : s.size = 3 := by rw [hs]; show l.toArray.size = 3; rw [List.size_toArray, h3]
  rw [← hs] at hf
  have hsum : (100 : Int) + (n : Int) = (q : Int) := by omega
  have hq2 : q < 200 := by omega
  clear hE hl hs h3 hq
  go_enter Tryz.func162, Tryz.ntmps162
  go_wp2_with fail
  refine hf.mono ?_
  rintro e w1 ⟨rfl, k, os, rfl⟩
  have hb := Lib.hid (Lib.below_grow w.heap.size w (Nat.le_refl _) k os)
  go_wp2
  go_ret
  exact ⟨_, rfl, by rw [ByteArray.size_extract, h3']; rfl, hb.out⟩
theorem dig_pos (u : Nat) : 1 ≤ (Lib.decDigits u).length := by
  rw [Lib.decDigits]
  split
  · simp
  · simp
theorem fmt_any (n : Nat) (h1 : n ≤ 1000000) (w : World) (hE : Env w) : Calls Tryz.prog 164 #[.int .i64 (n : Int), .int .i64 10] w fun e w' => ∃ s, e = .returned (.string s) ∧ Txt 21 s ∧ Below w.heap.size w w' := by
  refine (Tryz.strconv_FormatInt_10 (n : Int) (by omega) (by omega) w hE.tab).mono ?_
  rintro e w1 ⟨rfl, k, os, rfl⟩
  have h2 := Lib.itoa_length_le (n : Int) (by omega) (by omega)
  have h3 : 1 ≤ (Lib.itoa (n : Int)).length := by rw [Lib.itoa_nonneg]; exact dig_pos n
  refine ⟨_, rfl, ⟨?_, ?_⟩, Lib.below_grow w.heap.size w (Nat.le_refl _) k os⟩
  · show 1 ≤ (Lib.itoa (n : Int)).toArray.size
    rw [List.size_toArray]; exact h3
  · show (Lib.itoa (n : Int)).toArray.size ≤ 21
    rw [List.size_toArray]; exact h2
/-- what Print hands back: a text of a time that may be, else none -/
def Printed (w : World) (t : Int) (e : Ending) (w' : World) : Prop := ∃ s : ByteArray, e = .returned (.string s) ∧ decide (s = ByteArray.empty) = !dated t ∧ Below w.heap.size w w'
set_option maxRecDepth 8000 in
set_option maxHeartbeats 3000000 in
theorem print_any (t : Int) (h0 : -9223372036854775808 ≤ t) (h1 : t ≤ 9223372036854775807) (w : World) (hE : Env w) : Calls Tryz.prog 104 #[.int .i64 t] w (Printed w t) := by
  by_cases hd : dated t = true
  · unfold dated at hd
    simp only [Bool.and_eq_true, decide_eq_true_eq] at hd
    obtain ⟨d0, d1⟩ := hd
    have HD : Hid (dated t = true) := by show _ = _; unfold dated; rw [decide_eq_true d0, decide_eq_true d1]; rfl
    have HE := Lib.hid hE
    clear hE h0 h1
    obtain ⟨q, hq⟩ : ∃ q, t / 86400 = q := ⟨_, rfl⟩
    obtain ⟨r, hr⟩ : ∃ r, t % 86400 = r := ⟨_, rfl⟩
    have q0 : 0 ≤ q ∧ q ≤ 2932896 := by omega
    have r0 : 0 ≤ r ∧ r < 86400 := by omega
    obtain ⟨hh, hhh⟩ : ∃ x : Nat, r / 3600 = (x : Int) := ⟨(r / 3600).toNat, by omega⟩
    obtain ⟨u, hu⟩ : ∃ x : Int, r % 3600 = x := ⟨_, rfl⟩
    obtain ⟨mi, hmi⟩ : ∃ x : Nat, u / 60 = (x : Int) := ⟨(u / 60).toNat, by omega⟩
    obtain ⟨se, hse⟩ : ∃ x : Nat, r % 60 = (x : Int) := ⟨(r % 60).toNat, by omega⟩
    have b1 : hh < 100 ∧ mi < 100 ∧ se < 100 ∧ 0 ≤ u ∧ u < 3600 := by omega
    go_enter Tryz.func104, Tryz.ntmps104
    go_wp2_with fail
    refine (civil_any q q0.1 q0.2 w).mono ?_
    rintro e w1 ⟨y, m, d, rfl, y0, y1, m0, m1, dd0, dd1, rfl⟩
    obtain ⟨dn, rfl⟩ := Int.eq_ofNat_of_zero_le (show 0 ≤ d by omega)
    obtain ⟨yy, hyy⟩ : ∃ x : Nat, 10000 + y = (x : Int) := ⟨(10000 + y).toNat, by omega⟩
    have yb : yy ≤ 30000 := by omega
    have db : dn < 100 := by omega
    go_wp2_with fail
    refine (two_any dn db w HE.out).mono ?_
    rintro e w2 ⟨sd, rfl, hsd, hb2⟩
    have hE2 := HE.out.below hb2
    have HB2 := Lib.hid hb2
    have HE2 := Lib.hid hE2
    clear hb2 hE2
    have hE := HE2.out.drew
    have hB : Below w.heap.size w w2.drew := HB2.out.drew
    clear HE2 HB2
    by_cases h10 : dn < 10
    · go_wp2_with fail
      obtain ⟨day, hday⟩ : ∃ s : ByteArray, s = (⟨#[32]⟩ ++ sd.extract 1 2) := ⟨_, rfl⟩
      have hds : day.size ≤ 100 := by rw [hday, ByteArray.size_append, ByteArray.size_extract, hsd]; decide
      rw [← hday]
      clear hday h10
      have td1 : r.tdiv 3600 = (hh : Int) := by rw [Int.tdiv_eq_ediv_of_nonneg r0.1]; exact hhh
      have tm1 : r.tmod 3600 = u := by rw [Int.tmod_eq_emod_of_nonneg r0.1]; exact hu
      have td2 : u.tdiv 60 = (mi : Int) := by rw [Int.tdiv_eq_ediv_of_nonneg b1.2.2.2.1]; exact hmi
      have tm2 : r.tmod 60 = (se : Int) := by rw [Int.tmod_eq_emod_of_nonneg r0.1]; exact hse
      have wy : IntKind.i64.wrap (yy : Int) = (yy : Int) := by rw [IntKind.wrap_i64]; omega
      have wh : IntKind.i64.wrap (hh : Int) = (hh : Int) := by rw [IntKind.wrap_i64]; omega
      have wm : IntKind.i64.wrap (mi : Int) = (mi : Int) := by rw [IntKind.wrap_i64]; omega
      have b2 : hh < 100 := b1.1
      have b3 : mi < 100 := b1.2.1
      have b4 : se < 100 := b1.2.2.1
      clear b1 hq q0 d0 d1 dd0 dd1 db y0 y1 hsd r0 HE
      have z0 : ¬ 9223372036854775807 < day.size + 1 := by omega
      go_region_with (first
        | (go_at_call 163; (with_reducible refine (month_any m m0 m1 _).mono ?_); rintro e w' ⟨s1, rfl, hs1, rfl⟩; obtain ⟨hs1a, hs1b⟩ := hs1; have z1 : ¬ 9223372036854775807 < day.size + 1 + s1.size := (by omega); have z2 : ¬ 9223372036854775807 < day.size + 1 + s1.size + 1 := (by omega))
        | (go_at_call 164; (with_reducible refine (fmt_any yy (by omega) _ hE).mono ?_); rintro e w3 ⟨s2, rfl, hs2, hb3⟩; obtain ⟨hs2a, hs2b⟩ := hs2; have hs2c : ((1 : Int) ≤ (s2.size : Int)) := (by omega); have hB := hB.trans (hb3.mono hB.size); have hE := hE.below hb3; clear hb3; have z3 : ¬ 9223372036854775807 < day.size + 1 + s1.size + 1 + (s2.size - 1) := (by omega); have z4 : ¬ 9223372036854775807 < day.size + 1 + s1.size + 1 + (s2.size - 1) + 1 := (by omega))
        | (go_at_call_of 162 (Value.int IntKind.i64 (hh : Int)); (with_reducible refine (two_any _ (by assumption) _ hE).mono ?_); rintro e w4 ⟨s3, rfl, hs3, hb4⟩; have hs3a := Nat.le_of_eq hs3; clear hs3; have hB := hB.trans (hb4.mono hB.size); have hE := hE.below hb4; clear hb4; have z5 : ¬ 9223372036854775807 < day.size + 1 + s1.size + 1 + (s2.size - 1) + 1 + s3.size := (by omega); have z6 : ¬ 9223372036854775807 < day.size + 1 + s1.size + 1 + (s2.size - 1) + 1 + s3.size + 1 := (by omega))
        | (go_at_call_of 162 (Value.int IntKind.i64 (mi : Int)); (with_reducible refine (two_any _ (by assumption) _ hE).mono ?_); rintro e w4 ⟨s4, rfl, hs4, hb4⟩; have hs4a := Nat.le_of_eq hs4; clear hs4; have hB := hB.trans (hb4.mono hB.size); have hE := hE.below hb4; clear hb4; have z7 : ¬ 9223372036854775807 < day.size + 1 + s1.size + 1 + (s2.size - 1) + 1 + s3.size + 1 + s4.size := (by omega); have z8 : ¬ 9223372036854775807 < day.size + 1 + s1.size + 1 + (s2.size - 1) + 1 + s3.size + 1 + s4.size + 1 := (by omega))
        | (go_at_call_of 162 (Value.int IntKind.i64 (se : Int)); (with_reducible refine (two_any _ (by assumption) _ hE).mono ?_); rintro e w4 ⟨s5, rfl, hs5, hb4⟩; have hs5a := Nat.le_of_eq hs5; clear hs5; have hB := hB.trans (hb4.mono hB.size); have hE := hE.below hb4; clear hb4; have z9 : ¬ 9223372036854775807 < day.size + 1 + s1.size + 1 + (s2.size - 1) + 1 + s3.size + 1 + s4.size + 1 + s5.size := (by omega); have z10 : ¬ 9223372036854775807 < day.size + 1 + s1.size + 1 + (s2.size - 1) + 1 + s3.size + 1 + s4.size + 1 + s5.size + 6 := (by omega)))
      go_wp2
      go_ret
      refine ⟨_, rfl, ?_, hB⟩
      rw [HD.out]
      exact decide_eq_false (fun e => by have := congrArg ByteArray.size e; simp only [ByteArray.size_append] at this; have h6 : ByteArray.size { data := #[32, 43, 48, 48, 48, 48] } = 6 := rfl; have h7 : ByteArray.empty.size = 0 := rfl; omega)
    · go_wp2_with fail
      obtain ⟨day, hday⟩ : ∃ s : ByteArray, s = sd := ⟨_, rfl⟩
      have hds : day.size ≤ 100 := by rw [hday, hsd]; decide
      rw [← hday]
      clear hday h10
      have td1 : r.tdiv 3600 = (hh : Int) := by rw [Int.tdiv_eq_ediv_of_nonneg r0.1]; exact hhh
      have tm1 : r.tmod 3600 = u := by rw [Int.tmod_eq_emod_of_nonneg r0.1]; exact hu
      have td2 : u.tdiv 60 = (mi : Int) := by rw [Int.tdiv_eq_ediv_of_nonneg b1.2.2.2.1]; exact hmi
      have tm2 : r.tmod 60 = (se : Int) := by rw [Int.tmod_eq_emod_of_nonneg r0.1]; exact hse
      have wy : IntKind.i64.wrap (yy : Int) = (yy : Int) := by rw [IntKind.wrap_i64]; omega
      have wh : IntKind.i64.wrap (hh : Int) = (hh : Int) := by rw [IntKind.wrap_i64]; omega
      have wm : IntKind.i64.wrap (mi : Int) = (mi : Int) := by rw [IntKind.wrap_i64]; omega
      have b2 : hh < 100 := b1.1
      have b3 : mi < 100 := b1.2.1
      have b4 : se < 100 := b1.2.2.1
      clear b1 hq q0 d0 d1 dd0 dd1 db y0 y1 hsd r0 HE
      have z0 : ¬ 9223372036854775807 < day.size + 1 := by omega
      go_region_with (first
        | (go_at_call 163; (with_reducible refine (month_any m m0 m1 _).mono ?_); rintro e w' ⟨s1, rfl, hs1, rfl⟩; obtain ⟨hs1a, hs1b⟩ := hs1; have z1 : ¬ 9223372036854775807 < day.size + 1 + s1.size := (by omega); have z2 : ¬ 9223372036854775807 < day.size + 1 + s1.size + 1 := (by omega))
        | (go_at_call 164; (with_reducible refine (fmt_any yy (by omega) _ hE).mono ?_); rintro e w3 ⟨s2, rfl, hs2, hb3⟩; obtain ⟨hs2a, hs2b⟩ := hs2; have hs2c : ((1 : Int) ≤ (s2.size : Int)) := (by omega); have hB := hB.trans (hb3.mono hB.size); have hE := hE.below hb3; clear hb3; have z3 : ¬ 9223372036854775807 < day.size + 1 + s1.size + 1 + (s2.size - 1) := (by omega); have z4 : ¬ 9223372036854775807 < day.size + 1 + s1.size + 1 + (s2.size - 1) + 1 := (by omega))
        | (go_at_call_of 162 (Value.int IntKind.i64 (hh : Int)); (with_reducible refine (two_any _ (by assumption) _ hE).mono ?_); rintro e w4 ⟨s3, rfl, hs3, hb4⟩; have hs3a := Nat.le_of_eq hs3; clear hs3; have hB := hB.trans (hb4.mono hB.size); have hE := hE.below hb4; clear hb4; have z5 : ¬ 9223372036854775807 < day.size + 1 + s1.size + 1 + (s2.size - 1) + 1 + s3.size := (by omega); have z6 : ¬ 9223372036854775807 < day.size + 1 + s1.size + 1 + (s2.size - 1) + 1 + s3.size + 1 := (by omega))
        | (go_at_call_of 162 (Value.int IntKind.i64 (mi : Int)); (with_reducible refine (two_any _ (by assumption) _ hE).mono ?_); rintro e w4 ⟨s4, rfl, hs4, hb4⟩; have hs4a := Nat.le_of_eq hs4; clear hs4; have hB := hB.trans (hb4.mono hB.size); have hE := hE.below hb4; clear hb4; have z7 : ¬ 9223372036854775807 < day.size + 1 + s1.size + 1 + (s2.size - 1) + 1 + s3.size + 1 + s4.size := (by omega); have z8 : ¬ 9223372036854775807 < day.size + 1 + s1.size + 1 + (s2.size - 1) + 1 + s3.size + 1 + s4.size + 1 := (by omega))
        | (go_at_call_of 162 (Value.int IntKind.i64 (se : Int)); (with_reducible refine (two_any _ (by assumption) _ hE).mono ?_); rintro e w4 ⟨s5, rfl, hs5, hb4⟩; have hs5a := Nat.le_of_eq hs5; clear hs5; have hB := hB.trans (hb4.mono hB.size); have hE := hE.below hb4; clear hb4; have z9 : ¬ 9223372036854775807 < day.size + 1 + s1.size + 1 + (s2.size - 1) + 1 + s3.size + 1 + s4.size + 1 + s5.size := (by omega); have z10 : ¬ 9223372036854775807 < day.size + 1 + s1.size + 1 + (s2.size - 1) + 1 + s3.size + 1 + s4.size + 1 + s5.size + 6 := (by omega)))
      go_wp2
      go_ret
      refine ⟨_, rfl, ?_, hB⟩
      rw [HD.out]
      exact decide_eq_false (fun e => by have := congrArg ByteArray.size e; simp only [ByteArray.size_append] at this; have h6 : ByteArray.size { data := #[32, 43, 48, 48, 48, 48] } = 6 := rfl; have h7 : ByteArray.empty.size = 0 := rfl; omega)
  · have HD : Hid (dated t = false) := by show _ = _; exact Bool.eq_false_iff.2 hd
    by_cases hn : t < 0
    · clear hd h1
      go_enter Tryz.func104, Tryz.ntmps104
      go_wp2
      go_ret
      exact ⟨_, rfl, by rw [HD.out]; rfl, Below.refl _ _⟩
    · have hn' : 253402300799 < t := by
        refine Int.not_le.1 (fun h => hd ?_)
        unfold dated
        rw [decide_eq_true (by omega), decide_eq_true (by omega)]; rfl
      clear hd h1
      go_enter Tryz.func104, Tryz.ntmps104
      go_wp2
      go_ret
      exact ⟨_, rfl, by rw [HD.out]; rfl, Below.refl _ _⟩
end Go.Proofs.YtlhaempecidohaaGreatDoor
namespace Go.Proofs.YtlhaempecidohaaGreatDoor
open Go.RowKit
def msgCells (m : Msg) (o : Value) : List Value := [.int .u32 (m.uid : Int), .int .i64 m.date, .int .i64 m.flags, o]
def msgV (m : Msg) (o : Value) : Value := .agg (msgCells m o).toArray
def noteCells (x : Note) (o : Value) : List Value := [.int .i64 x.kind, .int .u32 (x.epoch : Int), .string x.name] ++ msgCells x.msg o
def noteV (x : Note) (o : Value) : Value := .agg (noteCells x o).toArray
set_option maxHeartbeats 1000000 in
theorem bare_any (m : Msg) (A : Option Addr) (n c : Nat) (hn : n = m.oct.length) (w : World) :
    Calls Tryz.prog 207 #[msgV m (.slice A n c)] w fun e w' => e = .returned (.bool (bareMsg m)) ∧ Below w.heap.size w w' := by
  unfold msgV msgCells bareMsg
  rw [← hn]
  clear hn
  obtain ⟨u, d, f, o⟩ := m
  dsimp only
  by_cases h1 : d = 0 <;> by_cases h2 : f = 0 <;> by_cases h3 : n = 0
  all_goals
    go_enter Tryz.func207, Tryz.ntmps207
    go_wp2
    go_ret
    refine ⟨?_, (Below.refl _ _).alloc (Nat.le_refl _) _⟩
    show Ending.returned (Value.bool _) = _
    simp [*]
theorem cell_new (w : World) (cs : Array Value) (t : TypeId) {i : Nat} {v : Value} (h : cs[i]? = some v) : (w.alloc (.cells cs t)).cell? ⟨w.heap.size, i, none⟩ = some v := by
  rw [World.cell?_alloc_new]; exact h
theorem str_empty {s : ByteArray} {b : Bool} (h : decide (s = ByteArray.empty) = b) : s.toList.isEmpty = b := by
  rw [← h]
  obtain ⟨⟨l⟩⟩ := s
  rw [ByteArray.toList_eq]
  cases l with
  | nil => rfl
  | cons a l => symm; exact decide_eq_false (fun e => by cases e)
set_option maxRecDepth 8000 in
set_option maxHeartbeats 1000000 in
theorem right_any (m : Msg) (A : Option Addr) (n c : Nat) (hn : n = m.oct.length) (hlt : n ≤ 10000000) (hd0 : -9223372036854775808 ≤ m.date) (hd1 : m.date ≤ 9223372036854775807) (w : World) (hE : Env w) :
    Calls Tryz.prog 208 #[msgV m (.slice A n c)] w fun e w' => e = .returned (.bool (rightMsg m)) ∧ Below w.heap.size w w' := by
  unfold msgV msgCells rightMsg flagged
  rw [← hn]
  clear hn
  obtain ⟨u, d, f, o⟩ := m
  dsimp only at hd0 hd1 ⊢
  obtain ⟨q, hq⟩ : ∃ q, q = (decide (1 ≤ u) && dated d && (decide (0 ≤ f) && decide (f ≤ 31)) && decide (n ≤ 20000)) := ⟨_, rfl⟩
  rw [← hq]
  have HQ := Lib.hid hq
  clear hq
  have hb0 : Below w.heap.size w (w.alloc (.cells #[.int .u32 (u : Int), .int .i64 d, .int .i64 f, .slice A n c] 37)) := (Below.refl _ _).alloc (Nat.le_refl _) _
  have HE := Lib.hid (hE.below hb0)
  have HB := Lib.hid hb0
  clear hE hb0
  have HD := Lib.hid hd0
  have HD' := Lib.hid hd1
  clear hd0 hd1
  by_cases h1 : 1 ≤ u
  · go_enter Tryz.func208, Tryz.ntmps208
    go_wp2_with fail
    refine (print_any d HD.out HD'.out _ HE.out).mono ?_
    rintro e w1 ⟨s, rfl, hs, hb⟩
    have hB := Lib.hid (HB.out.trans (hb.mono HB.out.size))
    have c2 : w1.cell? ⟨w.heap.size, 2, none⟩ = some (.int .i64 f) := cell_later hb (cell_new w _ 37 rfl)
    have c3 : w1.cell? ⟨w.heap.size, 3, none⟩ = some (.slice A n c) := cell_later hb (cell_new w _ 37 rfl)
    clear hb
    have hs := str_empty hs
    cases ht : dated d
    · rw [ht] at hs
      go_wp2
      go_ret
      refine ⟨?_, hB.out⟩
      rw [HQ.out, ht, Bool.and_false]; rfl
    · rw [ht] at hs
      obtain ⟨h2, h3⟩ | ⟨h2, h3⟩ | ⟨h2, h3⟩ : (0 ≤ f ∧ f ≤ 31) ∨ (0 ≤ f ∧ ¬ f ≤ 31) ∨ (¬ 0 ≤ f ∧ f ≤ 31) := by omega
      all_goals by_cases h4 : n ≤ 20000
      all_goals
        go_wp2
        go_ret
        refine ⟨?_, hB.out⟩
        rw [HQ.out, ht]
        show Ending.returned (Value.bool _) = _
        simp [*]
        try omega
  · go_enter Tryz.func208, Tryz.ntmps208
    go_wp2
    go_ret
    refine ⟨?_, HB.out⟩
    rw [HQ.out, decide_eq_false h1]
    rfl
/-- the cells of a note at a block -/
structure NoteC (w : World) (g : Nat) (x : Note) (o : Value) : Prop where
  c0 : w.cell? ⟨g, 0, none⟩ = some (.int .i64 x.kind)
  c1 : w.cell? ⟨g, 1, none⟩ = some (.int .u32 (x.epoch : Int))
  c2 : w.cell? ⟨g, 2, none⟩ = some (.string x.name)
  c3 : w.cell? ⟨g, 3, none⟩ = some (.int .u32 (x.msg.uid : Int))
  c4 : w.cell? ⟨g, 4, none⟩ = some (.int .i64 x.msg.date)
  c5 : w.cell? ⟨g, 5, none⟩ = some (.int .i64 x.msg.flags)
  c6 : w.cell? ⟨g, 6, none⟩ = some o
theorem NoteC.later {w w' : World} {g : Nat} {x : Note} {o : Value} (h : NoteC w g x o) (hb : Below w.heap.size w w') : NoteC w' g x o :=
  ⟨cell_later hb h.c0, cell_later hb h.c1, cell_later hb h.c2, cell_later hb h.c3, cell_later hb h.c4, cell_later hb h.c5, cell_later hb h.c6⟩
theorem NoteC.boxed (w : World) (x : Note) (o : Value) (t : TypeId) : NoteC (w.alloc (.cells (noteCells x o).toArray t)) w.heap.size x o :=
  ⟨cell_new w _ t rfl, cell_new w _ t rfl, cell_new w _ t rfl, cell_new w _ t rfl, cell_new w _ t rfl, cell_new w _ t rfl, cell_new w _ t rfl⟩
set_option maxRecDepth 8000 in
set_option maxHeartbeats 2000000 in
theorem formed_any (x : Note) (A : Option Addr) (n c : Nat) (hn : n = x.msg.oct.length) (hlt : n ≤ 10000000) (hnm : x.name.size ≤ 1000000) (hd0 : -9223372036854775808 ≤ x.msg.date) (hd1 : x.msg.date ≤ 9223372036854775807) (w : World) (hE : Env w) :
    Calls Tryz.prog 153 #[noteV x (.slice A n c)] w fun e w' => e = .returned (.bool (formed x)) ∧ Below w.heap.size w w' := by
  have hb0 : Below w.heap.size w (w.alloc (.cells (noteCells x (.slice A n c)).toArray 134)) := (Below.refl _ _).alloc (Nat.le_refl _) _
  have hC0 := NoteC.boxed w x (.slice A n c) 134
  have hE0 := hE.below hb0
  obtain ⟨q, hq⟩ : ∃ q, q = formed x := ⟨_, rfl⟩
  rw [← hq]
  have hR := fun w hw => right_any x.msg A n c hn hlt hd0 hd1 w hw
  have hBr := fun w => bare_any x.msg A n c hn w
  have hN := fun k0 w hw => bnamed x.name hnm k0 w hw
  unfold formed at hq
  clear hE hn hlt hnm hd0 hd1
  obtain ⟨kd, ep, nm, m⟩ := x
  unfold noteV
  unfold noteCells at hC0 hb0 hE0 ⊢
  unfold msgV at hR hBr
  unfold msgCells at hR hBr hC0 hb0 hE0 ⊢
  obtain ⟨u, d, f, oc⟩ := m
  dsimp only [List.cons_append, List.nil_append] at hq hR hBr hN hC0 hb0 hE0 ⊢
  have HQ := Lib.hid hq
  have HC0 := Lib.hid hC0
  have HB0 := Lib.hid hb0
  have HE0 := Lib.hid hE0
  have HR := Lib.hid hR
  have HBr := Lib.hid hBr
  have HN := Lib.hid hN
  clear hq hC0 hb0 hE0 hR hBr hN
  by_cases h1 : ep < 1
  · go_enter Tryz.func153, Tryz.ntmps153
    go_wp2_with fail
    go_ret
    exact ⟨by rw [HQ.out, if_pos h1]; rfl, HB0.out⟩
  · obtain ⟨k0, hk0⟩ := HE0.out.maxlen
    have HK := Lib.hid hk0
    clear hk0
    by_cases h2 : kd = 1
    · subst h2
      go_enter Tryz.func153, Tryz.ntmps153
      go_wp2_with fail
      refine (HN.out k0 _ HK.out).mono ?_
      rintro e w1 ⟨rfl, hb⟩
      obtain ⟨c0, c1, c2, c3, c4, c5, c6⟩ := HC0.out.later hb
      have hB1 := HB0.out.trans (hb.mono HB0.out.size)
      have HC1 := Lib.hid (HC0.out.later hb)
      have HB1 := Lib.hid hB1
      clear hb hB1
      obtain ⟨nb, hnb⟩ : ∃ b, named nm = b := ⟨_, rfl⟩
      rw [hnb]
      cases nb
      · go_wp2_with fail
        go_ret
        exact ⟨by rw [HQ.out, if_neg h1, if_pos trivial, hnb]; rfl, HB1.out⟩
      · go_wp2_with fail
        refine (HBr.out _).mono ?_
        rintro e w2 ⟨rfl, hb⟩
        obtain ⟨d0, d1, d2, d3, d4, d5, d6⟩ := HC1.out.later hb
        have HB2 := Lib.hid (HB1.out.trans (hb.mono HB1.out.size))
        clear hb c0 c1 c2 c3 c4 c5 c6
        obtain ⟨bb, hbb⟩ : ∃ b, bareMsg ⟨u, d, f, oc⟩ = b := ⟨_, rfl⟩
        rw [hbb]
        cases bb
        · go_wp2_with fail
          go_ret
          exact ⟨by rw [HQ.out, if_neg h1, if_pos trivial, hnb, hbb]; rfl, HB2.out⟩
        · by_cases h3 : u = 0
          · subst h3
            go_wp2_with fail
            go_ret
            exact ⟨by rw [HQ.out, if_neg h1, if_pos trivial, hnb, hbb]; rfl, HB2.out⟩
          · have h3' : ((u : Int) == 0) = false := by simp [h3]
            go_wp2_with fail
            go_ret
            exact ⟨by rw [HQ.out, if_neg h1, if_pos trivial, hnb, hbb, decide_eq_false h3]; rfl, HB2.out⟩
    · have h2' : (kd == 1) = false := by simp [h2]
      by_cases h4 : kd = 2
      · subst h4
        go_enter Tryz.func153, Tryz.ntmps153
        go_wp2_with fail
        refine (HN.out k0 _ HK.out).mono ?_
        rintro e w1 ⟨rfl, hb⟩
        obtain ⟨c0, c1, c2, c3, c4, c5, c6⟩ := HC0.out.later hb
        have hB1 := HB0.out.trans (hb.mono HB0.out.size)
        have HE1 := Lib.hid (HE0.out.below hb)
        have HB1 := Lib.hid hB1
        clear hb hB1
        obtain ⟨nb, hnb⟩ : ∃ b, named nm = b := ⟨_, rfl⟩
        rw [hnb]
        cases nb
        · go_wp2_with fail
          go_ret
          exact ⟨by rw [HQ.out, if_neg h1, if_neg h2, if_pos trivial, hnb]; rfl, HB1.out⟩
        · go_wp2_with fail
          refine (HR.out _ HE1.out).mono ?_
          rintro e w2 ⟨rfl, hb⟩
          have HB2 := Lib.hid (HB1.out.trans (hb.mono HB1.out.size))
          clear hb
          obtain ⟨bb, hbb⟩ : ∃ b, rightMsg ⟨u, d, f, oc⟩ = b := ⟨_, rfl⟩
          rw [hbb]
          go_wp2_with fail
          go_ret
          exact ⟨by rw [HQ.out, if_neg h1, if_neg h2, if_pos trivial, hnb, hbb]; rfl, HB2.out⟩
      · have h4' : (kd == 2) = false := by simp [h4]
        by_cases h5 : kd = 3
        · subst h5
          obtain ⟨nb, hnb⟩ : ∃ b, decide (nm = ByteArray.empty) = b := ⟨_, rfl⟩
          have hnb' := str_empty hnb
          cases nb
          · go_enter Tryz.func153, Tryz.ntmps153
            go_wp2_with fail
            go_ret
            exact ⟨by rw [HQ.out, if_neg h1, if_neg h2, if_neg h4, hnb]; rfl, HB0.out⟩
          · go_enter Tryz.func153, Tryz.ntmps153
            go_wp2_with fail
            refine (HBr.out _).mono ?_
            rintro e w2 ⟨rfl, hb⟩
            obtain ⟨d0, d1, d2, d3, d4, d5, d6⟩ := HC0.out.later hb
            have HB2 := Lib.hid (HB0.out.trans (hb.mono HB0.out.size))
            clear hb
            obtain ⟨bb, hbb⟩ : ∃ b, bareMsg ⟨u, d, f, oc⟩ = b := ⟨_, rfl⟩
            rw [hbb]
            cases bb
            · go_wp2_with fail
              go_ret
              exact ⟨by rw [HQ.out, if_neg h1, if_neg h2, if_neg h4, hnb, hbb]; rfl, HB2.out⟩
            · obtain ⟨tb, htb⟩ : ∃ b, decide ((1 : Int) ≤ (u : Int)) = b := ⟨_, rfl⟩
              go_wp2_with fail
              go_ret
              refine ⟨?_, HB2.out⟩
              rw [HQ.out, if_neg h1, if_neg h2, if_neg h4, hnb, hbb]
              show Ending.returned (Value.bool _) = Ending.returned (Value.bool (decide (1 ≤ u)))
              rw [← htb]
              have : decide ((1 : Int) ≤ (u : Int)) = decide (1 ≤ u) := by simp; omega
              rw [this]
        · have h5' : (kd == 3) = false := by simp [h5]
          go_enter Tryz.func153, Tryz.ntmps153
          go_wp2_with fail
          go_ret
          exact ⟨by rw [HQ.out, if_neg h1, if_neg h2, if_neg h4, decide_eq_false h5]; rfl, HB0.out⟩
end Go.Proofs.YtlhaempecidohaaGreatDoor
