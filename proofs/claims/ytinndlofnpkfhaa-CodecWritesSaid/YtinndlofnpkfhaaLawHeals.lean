/-
  The walk of the law FrameHeals.
-/
import Derived.Test.YtinndlofnpkfhaaSame
import Derived.Test.YtinndlofnpkfhaaScan
import Derived.Test.YtinndlofnpkfhaaRFrame
import Derived.Test.YtinndlofnpkfhaaFrb
namespace Go.Proofs.Ytinndlofnpkfhaa
open Go.RowKit

theorem IsRow.le_ {k : IntKind} {w : World} {a : Option Addr} {len cap : Nat} {zs : List Int} (h : IsRow k w a len cap zs) : len ≤ cap := by
  rcases h with ⟨rfl, rfl, rfl, rfl⟩ | ⟨x, rfl, hl, _⟩
  · exact Nat.le_refl _
  · exact hl

set_option maxRecDepth 8000 in
set_option maxHeartbeats 2000000 in
theorem frameHeals_walk (a0 : Option Addr) (len0 cap0 : Nat) (z0 : List Int) (a1 : Option Addr) (len1 cap1 : Nat) (z1 : List Int) (a2 : Int) (w : World) (w0 : IsRow .u8 w a0 len0 cap0 z0) (w1 : IsRow .u8 w a1 len1 cap1 z1)
    (w2 : (Lit.int .u8 a2).wf = true) (mx : Int) (hmx : w.cell? ⟨0, 0, none⟩ = some (.int .i64 mx)) :
    Calls Try.prog 15 #[.slice a0 len0 cap0, .slice a1 len1 cap1, .int .u8 a2] w fun e w' => e = .returned (.bool true) ∧ Below w.heap.size w w' := by
  have hr0 := RB.of_row w0
  have hr1 := RB.of_row w1
  have hle1 := IsRow.le_ w1
  have h2 := bounds_u8 w2
  obtain ⟨l, hl⟩ : ∃ l, l = nats (z0.take len0) := ⟨_, rfl⟩
  obtain ⟨p, hp⟩ : ∃ l, l = nats (z1.take len1) := ⟨_, rfl⟩
  rw [← hl] at hr0
  rw [← hp] at hr1
  have H0 := Lib.hid hr0
  have H1 := Lib.hid hr1
  have HM := Lib.hid hmx
  clear hl hp w0 w1 w2 hr0 hr1 hmx
  by_cases hn : 2000 < len0
  · go_enter Try.func15, Try.ntmps15
    go_wp2_with fail
    refine (awake04 _).mono ?_
    rintro e w1 ⟨rfl, hb1⟩
    go_wp2_with fail
    refine (awake04 _).mono ?_
    rintro e w2 ⟨rfl, hb2⟩
    go_wp2
    go_ret
    exact ⟨rfl, hb1.trans (hb2.mono hb1.size)⟩
  by_cases hn1 : 2000 < len1
  · go_enter Try.func15, Try.ntmps15
    go_wp2_with fail
    refine (awake04 _).mono ?_
    rintro e w1 ⟨rfl, hb1⟩
    go_wp2_with fail
    refine (awake04 _).mono ?_
    rintro e w2 ⟨rfl, hb2⟩
    go_wp2
    go_ret
    exact ⟨rfl, hb1.trans (hb2.mono hb1.size)⟩
  · have d0 : decide (2000 < (len0 : Int)) = false := by simp; omega
    have d1 : decide (2000 < (len1 : Int)) = false := by simp; omega
    obtain ⟨kk, rfl⟩ := Int.eq_ofNat_of_zero_le h2.1
    obtain ⟨k, hk⟩ : ∃ k, k = kk % 3 + 1 := ⟨_, rfl⟩
    have ek : 1 + (kk : Int) % 3 = (k : Int) := by omega
    have hk1 : 1 ≤ k := by omega
    have hk3 : k ≤ 3 := by omega
    clear hk
    go_enter Try.func15, Try.ntmps15
    go_wp2_with fail
    refine (awake04 _).mono ?_
    rintro e w1 ⟨rfl, hb1⟩
    have HR0 := Lib.hid (H0.out.below hb1)
    have HB1 := Lib.hid hb1
    clear hb1
    go_wp2_with fail
    go_loop [27] (fun v => ∃ i : Nat, i ≤ len0 ∧ v = .int .i64 (i : Int) ∧ ∀ j x, j < i → l[j]? = some x → x ≠ 99) (fun v => len0 - (intOf v).toNat)
    case atStart => exact ⟨0, Nat.zero_le _, rfl, fun j x hj => absurd hj (Nat.not_lt_zero _)⟩
    case round =>
      obtain ⟨i, hi, rfl, hno⟩ := hrel
      have HNO := Lib.hid hno
      clear hno
      by_cases hil : i < len0
      · have hil' : (i : Int) < (len0 : Int) := by omega
        obtain ⟨ad, x, rfl, hx, hx2, hc⟩ := HR0.out.at_ hil
        have HX := Lib.hid hx
        clear hx
        by_cases h99 : x = 99
        · subst h99
          go_wp2
          go_ret
          exact ⟨rfl, HB1.out⟩
        · have d99 : ((x : Int) == 99) = false := by simp; omega
          go_wp2
          go_round
          case rel =>
            refine ⟨i + 1, hil, by go_num, fun j y hj hy => ?_⟩
            by_cases e : j = i
            · subst e
              have := HX.out
              rw [hy] at this
              cases this
              exact h99
            · exact HNO.out j y (by omega) hy
          case measure => simp [intOf]; omega
      · have hall : ∀ x ∈ l, x ≠ 99 := by
          intro x hx
          obtain ⟨j, hj⟩ := List.getElem?_of_mem hx
          refine HNO.out j x ?_ hj
          have := (List.getElem?_eq_some_iff.1 hj).1
          rw [HR0.out.1] at this
          omega
        have HALL := Lib.hid hall
        have HR1 := Lib.hid (H1.out.below HB1.out)
        have hlen0 := HR0.out.1
        have hlen1 := HR1.out.1
        have hplt := HR1.out.2.1
        have hwq1 := HB1.out.size
        have hownc : Own (w1.alloc (.cells #[] 5)) w1.heap.size (some ⟨w1.heap.size, 0, none⟩) 0 0 [] := Own.made w1 #[] 0 (Nat.le_refl _) (by unfold maxLen; omega) rfl
        have hB2 : Below w1.heap.size w1 (w1.alloc (.cells #[] 5)) := (Below.refl _ _).alloc (Nat.le_refl _) _
        have hr2 := HR0.out.below hB2
        clear hall
        go_wp2_with (first
          | (at_builtin; refine wpList_append_rb rfl (.tmp 40) (.tmp 41) rfl rfl rfl hownc hr2 (by omega) hB2.size ?_; intro A3 c3 w3 hown3 ho3 _; simp only [Nat.zero_add, List.nil_append] at hown3; rw [Nat.zero_add]))
        have hb3 := hB2.trans (ho3.below hB2.size (fun i hi e => by simp [blk] at e; omega))
        clear hownc hr2 ho3 hB2
        refine (rframe k a1 len1 cap1 p w3 (HR1.out.below hb3) hk1 hk3 (by omega)).mono ?_
        rintro e w4 ⟨A4, c4, rfl, hown4, hb4⟩
        have hown3' := hown3.only (Only.of_below hb4 (fun _ => False)) (fun _ _ h => h)
        have hr4 := hown4.read
        have hb14 := hb3.trans (hb4.mono hb3.size)
        clear hown3 hown4 hb3 hb4
        go_wp2_with (first
          | (at_builtin; refine wpList_append_rb rfl (.tmp 42) (.tmp 45) rfl rfl rfl hown3' hr4 (by omega) hb14.size ?_; intro A5 c5 w5 hown5 ho5 _))
        have hb15 := hb14.trans (ho5.below hb14.size (fun i hi e => by have := (hown3'.lt i e).1; omega))
        have HB5 := Lib.hid (HB1.out.trans (hb15.mono hwq1))
        have hr5 := hown5.read
        have hle5 := hown5.le
        have hs := scan_heals (k := k) (p := p) l hk1 hk3 (by omega) hplt HALL.out
        have HS := Lib.hid hs
        have HR15 := Lib.hid (HR1.out.below hb15)
        clear hown3' hr4 hb14 ho5 hb15 hown5 hs
        refine (scan_any A5 (len0 + (len1 + 44)) c5 _ mx w5 hr5 hle5 (by omega) (cell_later HB5.out HM.out)).mono ?_
        rintro e w6 ⟨A6, m6, c6, es, rfl, hrec6, hes, hb6⟩
        rw [HS.out] at hes ⊢
        have hwq5 := HB5.out.size
        have hB7 : Below w6.heap.size w6 (w6.alloc (.cells #[.int .i64 (len0 : Int), .int .i64 (k : Int), .slice a1 len1 cap1] 71)) := (Below.refl _ _).alloc (Nat.le_refl _) _
        have HB6 := Lib.hid (HB5.out.trans (hb6.mono hwq5))
        have HB7 := Lib.hid (HB6.out.trans (hB7.mono HB6.out.size))
        have h6 := (hrec6.below hB7).read
        have hmx6 := hrec6.max
        have h7 : RecsR (w6.alloc (.cells #[.int .i64 (len0 : Int), .int .i64 (k : Int), .slice a1 len1 cap1] 71)) (some ⟨w6.heap.size, 0, none⟩) 1 [⟨len0, k, a1, len1, cap1, p⟩] := by
          refine ⟨rfl, fun _ => ⟨_, rfl, fun j e he => ?_⟩, fun e he => ?_⟩
          · rcases j with _ | j
            · cases he
              refine ⟨?_, ?_, ?_⟩ <;> (rw [cell_of_row _ _ _ _ 71 (0, 0) (heap_alloc_new w6 _)]; rfl)
            · simp at he
          · rw [List.mem_singleton.1 he]
            exact (HR15.out.below (hb6.trans (hB7.mono hb6.size)))
        have H6 := Lib.hid h6
        have H7 := Lib.hid h7
        have HES : Hid (es.map Entry.rec_ = [Entry.rec_ ⟨len0, k, a1, len1, cap1, p⟩]) := by show _ = _; rw [hes, hlen0]; rfl
        clear hrec6 hes hb6 hB7 h6 h7 hlen0 hlen1
        go_wp2_with (first
          | (refine Great.wpList_buildTo rfl 71 _ rfl (some 57) rfl _ (built71 _ _ _ _ _) ?_))
        refine (same_any A6 m6 c6 _ 1 1 es _ _ H6.out H7.out HES.out hmx6).mono ?_
        rintro e w8 ⟨rfl, hb8⟩
        have hfin := HB7.out.trans (hb8.mono HB7.out.size)
        have hlen0 := HR0.out.1
        have hlen1 := HR1.out.1
        clear hb8
        go_wp2
        go_ret
        exact ⟨by simp, hfin⟩
end Go.Proofs.Ytinndlofnpkfhaa
