/-
  The walk of the law FrameBack.
-/
import Derived.Test.YtinndlofnpkfhaaLawHeals
import Derived.Test.YtinndlofnpkfhaaRows2
namespace Go.Proofs.Ytinndlofnpkfhaa
open Go.RowKit

set_option maxRecDepth 8000 in
set_option maxHeartbeats 2000000 in
theorem frameBack_walk (a0 : Option Addr) (len0 cap0 : Nat) (R : List Entry) (a1 : Int) (a2 : Int) (w : World) (w0 : Rows2 w a0 len0 R) (w1 : (Lit.int .u8 a1).wf = true) (w2 : (Lit.int .u16 a2).wf = true)
    (mx : Int) (hmx : w.cell? ⟨0, 0, none⟩ = some (.int .i64 mx)) :
    Calls Try.prog 14 #[.slice a0 len0 cap0, .int .u8 a1, .int .u16 a2] w fun e w' => e = .returned (.bool true) ∧ Below w.heap.size w w' := by
  have h1 := bounds_u8 w1
  have h2 := bounds_u16 w2
  have HR := Lib.hid w0
  have HM := Lib.hid hmx
  clear w0 w1 w2 hmx
  by_cases hn : 20 < len0
  · go_enter Try.func14, Try.ntmps14
    go_wp2_with fail
    refine (awake04 _).mono ?_
    rintro e w1 ⟨rfl, hb1⟩
    go_wp2_with fail
    refine (awake04 _).mono ?_
    rintro e w2 ⟨rfl, hb2⟩
    go_wp2
    go_ret
    exact ⟨rfl, hb1.trans (hb2.mono hb1.size)⟩
  · have d0 : decide (20 < (len0 : Int)) = false := by simp; omega
    obtain ⟨kk, rfl⟩ := Int.eq_ofNat_of_zero_le h1.1
    obtain ⟨ct, rfl⟩ := Int.eq_ofNat_of_zero_le h2.1
    obtain ⟨G, hG⟩ : ∃ G, G = R.mapIdx (fun j x => ((kk + j) % 3 + 1, x.p)) := ⟨_, rfl⟩
    have hGl : G.length = len0 := by rw [hG, List.length_mapIdx, HR.out.1]
    have hGs : ∀ i x, R[i]? = some x → G[i]? = some ((kk + i) % 3 + 1, x.p) := fun i x hx => by rw [hG, List.getElem?_mapIdx, hx]; rfl
    have HG := Lib.hid hGs
    have HGL := Lib.hid hGl
    clear hG hGs hGl
    go_enter Try.func14, Try.ntmps14
    go_wp2_with fail
    refine (awake04 _).mono ?_
    rintro e w1 ⟨rfl, hb1⟩
    have HB1 := Lib.hid hb1
    clear hb1
    go_wp2_with fail
    go_loopw [26, 7, 8] (fun v v7 v8 wr => ∃ (i : Nat) (A7 : Option Addr) (n7 c7 : Nat) (A8 : Option Addr) (c8 : Nat) (es : List Entry), v = .int .i64 (i : Int) ∧ v7 = .slice A7 n7 c7 ∧ v8 = .slice A8 i c8 ∧ i ≤ len0 ∧
        Own wr w.heap.size A7 n7 c7 (frames (G.take i)) ∧ Recs wr w.heap.size 71 A8 i c8 es ∧ es.map Entry.rec_ = recsFrom 0 (G.take i) ∧ (∀ e ∈ es, 0 < e.n → ∀ q, blk e.A = some q → q < w.heap.size) ∧
        (∀ q, blk A7 = some q → blk A8 ≠ some q) ∧ n7 ≤ i * 2044 ∧ good (G.take i) ∧ Below w.heap.size w wr) (fun v _ _ _ => len0 - (intOf v).toNat)
    case atStart => exact ⟨0, none, 0, 0, none, 0, [], rfl, rfl, rfl, Nat.zero_le _, Own.nil _ _, Recs.nil _ _ _, rfl, by simp, fun q hq => by simp [blk] at hq, Nat.le_refl _, by simp [good], HB1.out⟩
    case round =>
      obtain ⟨i, A7, n7, c7, A8, c8, es, rfl, rfl, rfl, hi, hown, hrec, hes, hE, hD, hn7, hgood, hB⟩ := hrel
      have HOWN := Lib.hid hown
      have HREC := Lib.hid hrec
      have HES := Lib.hid hes
      have HE := Lib.hid hE
      have HD := Lib.hid hD
      have HGOOD := Lib.hid hgood
      have HB := Lib.hid hB
      have hwq := hB.size
      clear hown hrec hes hE hD hgood hB
      by_cases hil : i < len0
      · have hil' : (i : Int) < (len0 : Int) := by omega
        have hR := HR.out.below HB.out
        obtain ⟨x, hx⟩ : ∃ x, R[i]? = some x := ⟨_, List.getElem?_eq_getElem (by rw [HR.out.1]; exact hil)⟩
        obtain ⟨ad, rfl, hcell⟩ := hR.2.1 (by omega)
        have hc := hcell i x hx
        have hcw : w.cell? (ad.add i) = some (.slice x.A x.n x.c) := by
          obtain ⟨ad', e, hcell'⟩ := HR.out.2.1 (by omega)
          cases e
          exact hcell' i x hx
        have hgx := HG.out i x hx
        have hpx0 := HR.out.2.2 x (List.mem_of_getElem? hx)
        have hpx := hR.2.2 x (List.mem_of_getElem? hx)
        obtain ⟨xi, xk, Ax, nx, cx, px⟩ := x
        simp only at hc hgx hpx hpx0 hcw
        have HCW := Lib.hid hcw
        clear hcw
        have hxl := hpx.1
        have hxlt := hpx.2.1
        have HPX := Lib.hid hpx
        have HPX0 := Lib.hid hpx0
        have HGX := Lib.hid hgx
        clear hR hx hcell hgx hpx hpx0
        by_cases hlong : 2000 < nx
        · go_wp2
          go_ret
          exact ⟨rfl, HB.out⟩
        · have dl : decide (2000 < (nx : Int)) = false := by simp; omega
          obtain ⟨k, hk⟩ : ∃ k, k = (kk + i) % 3 + 1 := ⟨_, rfl⟩
          have ek : 1 + ((kk : Int) + (i : Int)) % 3 = (k : Int) := by omega
          have hk1 : 1 ≤ k := by omega
          have hk3 : k ≤ 3 := by omega
          have HTK : Hid (G.take (i + 1) = G.take i ++ [(k, px)]) := by
            show _ = _
            rw [List.take_add_one, HGX.out, hk]; rfl
          clear hk
          have hB2 : Below wr.heap.size wr (wr.alloc (.cells #[.int .i64 (n7 : Int), .int .i64 (k : Int), .slice Ax nx cx] 71)) := (Below.refl _ _).alloc (Nat.le_refl _) _
          have hrec2 := HREC.out.below hB2
          have hpay2 : Pays (wr.alloc (.cells #[.int .i64 (n7 : Int), .int .i64 (k : Int), .slice Ax nx cx] 71)) A8 ⟨n7, k, Ax, nx, cx, px⟩ :=
            ⟨HPX.out.below hB2, fun h0 q hq hq2 => by have := HPX0.out.lt h0 q hq; have := (HREC.out.lt q hq2).1; omega⟩
          have hcells : ∀ (j : Nat) u, (Entry.cells ⟨n7, k, Ax, nx, cx, px⟩)[j]? = some u → (wr.alloc (.cells #[.int .i64 (n7 : Int), .int .i64 (k : Int), .slice Ax nx cx] 71)).cell? ⟨wr.heap.size, j, none⟩ = some u := fun j u hu => by
            rw [cell_of_row _ _ j _ 71 (0, 0) (heap_alloc_new wr _)]
            simpa [Entry.cells] using hu
          have HB2 := Lib.hid (HB.out.trans (hB2.mono hwq))
          have hwq2 := HB2.out.size
          have hown2 := HOWN.out.only (Only.of_below hB2 (fun _ => False)) (fun _ _ h => h)
          have HOWN2 := Lib.hid hown2
          clear hB2 hown2
          go_wp2_with (first
            | (refine Great.wpList_buildTo rfl 71 _ rfl (some 49) rfl _ (built71 _ _ _ _ _) ?_)
            | (at_builtin; refine wp_append_rec rfl (.tmp 41) (.tmp 50) 65 71 40 und65 inf71 (by decide) rfl rfl rfl hrec2 hcells hpay2 (by omega) hwq2 ?_; intro A9 c9 w3 hrec3 ho3 hbk3
               have hb3 := HB2.out.trans (ho3.below hwq2 (fun i hi e => by have := (hrec2.lt i e).1; omega))
               have hc3 := cell_later hb3 HCW.out))
          have hpx3 := HPX0.out.below hb3
          have hown3 := HOWN2.out.only ho3 (fun q hq hq2 => HD.out q hq hq2)
          have hD3 : ∀ q, blk A7 = some q → blk A9 ≠ some q := fun q hq hq2 => by
            rcases hbk3 with h | h
            · exact HD.out q hq (by rw [← h]; exact hq2)
            · rw [h] at hq2
              injection hq2 with hq2
              have := (HOWN2.out.lt q hq).2
              omega
          have HB3 := Lib.hid hb3
          have hwq3 := hb3.size
          have HREC3 := Lib.hid hrec3
          have HD3 := Lib.hid hD3
          have HOWN3 := Lib.hid hown3
          have hE3 : Hid (∀ e ∈ es ++ [(⟨n7, k, Ax, nx, cx, px⟩ : Entry)], 0 < e.n → ∀ q, blk e.A = some q → q < w.heap.size) := fun e he h0 q hq => by
            rcases List.mem_append.1 he with h | h
            · exact HE.out e h h0 q hq
            · rw [List.mem_singleton.1 h] at hq h0
              exact HPX0.out.lt h0 q hq
          clear hrec2 hcells hpay2 ho3 hbk3 hb3 hc3 hown3 hD3 hrec3 HB2 HOWN2 hwq2 hc
          refine (rframe k Ax nx cx px w3 hpx3 hk1 hk3 (by omega)).mono ?_
          rintro e w4 ⟨A4, c4, rfl, hown4, hb4⟩
          have hr4 := hown4.read
          have hown3' := HOWN3.out.only (Only.of_below hb4 (fun _ => False)) (fun _ _ h => h)
          have HB4 := Lib.hid (HB3.out.trans (hb4.mono hwq3))
          have hwq4 := HB4.out.size
          have HREC4 := Lib.hid (HREC3.out.below hb4)
          clear hown4 hb4 hpx3
          go_wp2_with (first
            | (at_builtin; refine wpList_append_rb rfl (.tmp 52) (.tmp 58) rfl rfl rfl hown3' hr4 (by omega) hwq4 ?_; intro A10 c10 w5 hown5 ho5 hbk5))
          have hrec5 := HREC4.out.only ho5 (fun q hq hq2 => HD3.out q hq2 hq) (fun e he h0 q hq hq2 => by have := hE3.out e he h0 q hq; have := (HOWN3.out.lt q hq2).1; omega)
          have hD5 : ∀ q, blk A10 = some q → blk A9 ≠ some q := fun q hq hq2 => by
            rcases hbk5 with h | h
            · exact HD3.out q (by rw [← h]; exact hq) hq2
            · rw [h] at hq
              injection hq with hq
              have := (HREC4.out.lt q hq2).2
              omega
          have HB5 := Lib.hid (HB4.out.trans (ho5.below hwq4 (fun i hi e => by have := (hown3'.lt i e).1; omega)))
          have HREC5 := Lib.hid hrec5
          have HD5 := Lib.hid hD5
          have HOWN5 := Lib.hid hown5
          clear hrec5 hD5 hown5 ho5 hbk5 hown3' hr4
          go_roundw
          case rel =>
            refine ⟨i + 1, A10, n7 + (nx + 44), c10, A9, c9, es ++ [⟨n7, k, Ax, nx, cx, px⟩], by go_num, rfl, rfl, hil, ?_, HREC5.out, ?_, hE3.out, HD5.out, by omega, ?_, HB5.out⟩
            · have := HOWN5.out
              rw [HTK.out, frames_append]
              simpa [frames] using this
            · rw [HTK.out, recsFrom_append, List.map_append, HES.out]
              have e : (frames (G.take i)).length = n7 := HOWN.out.1
              rw [e, Nat.zero_add]
              rfl
            · rw [HTK.out]
              intro y hy
              rcases List.mem_append.1 hy with h | h
              · exact HGOOD.out y h
              · rw [List.mem_singleton.1 h]
                exact ⟨hk1, hk3, by show px.length ≤ 30000; omega, hxlt⟩
          case measure => simp [intOf]; omega
      · have hiN : G.take i = G := List.take_of_length_le (by rw [HGL.out]; omega)
        rw [hiN] at HOWN HES HGOOD
        have hbl : (frames G).length = n7 := HOWN.out.1
        have hsc : scan (frames G) 0 = (recsFrom 0 G, n7) := by rw [scan_all G HGOOD.out, hbl]
        obtain ⟨bb, hbb⟩ : ∃ bb, bb = frames G := ⟨_, rfl⟩
        rw [← hbb] at hbl hsc HOWN
        have HBB := Lib.hid hbb
        have HSC := Lib.hid hsc
        have HBL := Lib.hid hbl
        have hle7 := HOWN.out.le
        have hn7' : n7 ≤ 40880 := by omega
        have hi20 : i ≤ 20 := by omega
        have HIN : Hid (G.length = i) := by show _ = _; rw [HGL.out]; omega
        clear hiN hbb hsc hbl hn7
        go_wp2_with fail
        refine (scan_any A7 n7 c7 bb mx wr HOWN.out.read hle7 (by omega) (cell_later HB.out HM.out)).mono ?_
        rintro e w3 ⟨A3, m3, c3, ls, rfl, hrec3, hls, hb3⟩
        rw [HSC.out] at hls ⊢
        have HB3 := Lib.hid (HB.out.trans (hb3.mono hwq))
        have hwq3 := HB3.out.size
        have hmx3 := hrec3.max
        have HREC3 := Lib.hid (HREC.out.below hb3)
        have HOWN3 := Lib.hid (HOWN.out.only (Only.of_below hb3 (fun _ => False)) (fun _ _ h => h))
        have HL3 := Lib.hid hrec3.read
        have hseq : Hid (ls.map Entry.rec_ = es.map Entry.rec_) := by show _ = _; rw [hls, HES.out]
        clear hls hrec3 hb3 HREC HOWN HSC
        go_wp2_with fail
        refine (same_any A3 m3 c3 A8 i c8 ls es w3 HL3.out HREC3.out.read hseq.out hmx3).mono ?_
        rintro e w4 ⟨rfl, hb4⟩
        have HB4 := Lib.hid (HB3.out.trans (hb4.mono hwq3))
        have hwq4 := HB4.out.size
        have HREC4 := Lib.hid (HREC3.out.below hb4)
        have HOWN4 := Lib.hid (HOWN3.out.only (Only.of_below hb4 (fun _ => False)) (fun _ _ h => h))
        have hself : ((n7 : Int) != (n7 : Int)) = false := by simp
        clear hb4 HREC3 HOWN3 HL3 hseq
        by_cases hz : n7 = 0
        · have dz : ((n7 : Int) == 0) = true := by simp; omega
          clear hz
          go_wp2
          go_ret
          exact ⟨rfl, HB4.out⟩
        · have dz : ((n7 : Int) == 0) = false := by simp; omega
          obtain ⟨at_, hat⟩ : ∃ a, a = ct % n7 := ⟨_, rfl⟩
          have hatl : at_ < n7 := by rw [hat]; exact Nat.mod_lt _ (by omega)
          have eat : (ct : Int) % (n7 : Int) = (at_ : Int) := by rw [hat]; simp
          have hi0 : 0 < i := by
            rcases Nat.eq_zero_or_pos i with h | h
            · exfalso
              have : G = [] := List.eq_nil_of_length_eq_zero (by rw [HIN.out, h])
              have := HBL.out
              rw [HBB.out, ‹G = []›] at this
              simp [frames] at this
              omega
            · exact h
          clear hat
          go_wp2_with fail
          go_loopw [14] (fun v wl => ∃ j : Nat, v = .int .i64 (j : Int) ∧ j < i ∧ (frames (G.take j)).length ≤ at_ ∧ wl.heap = w4.heap ∧ Below w.heap.size w wl) (fun v _ => i - (intOf v).toNat)
          case atStart => exact ⟨0, rfl, hi0, by simp [frames], rfl, HB4.out⟩
          case round =>
            obtain ⟨j, rfl, hj, hLj, hh, hBl⟩ := hrel
            have hr4 := HREC4.out.read.heap hh
            obtain ⟨k, p, hgj⟩ : ∃ k p, G[j]? = some (k, p) := ⟨_, _, List.getElem?_eq_getElem (by rw [HIN.out]; exact hj)⟩
            have hrj := recsFrom_get G 0 j k p hgj
            rw [← HES.out, Nat.zero_add, List.getElem?_map] at hrj
            obtain ⟨e, he⟩ : ∃ e, es[j]? = some e := ⟨_, List.getElem?_eq_getElem (by rw [hr4.1]; exact hj)⟩
            rw [he] at hrj
            simp only [Option.map_some, Option.some.injEq] at hrj
            obtain ⟨Lj, hL⟩ : ∃ L, L = (frames (G.take j)).length := ⟨_, rfl⟩
            rw [← hL] at hrj hLj
            obtain ⟨g, rfl, hc⟩ := hr4.2.1 (by omega)
            obtain ⟨b1, b2, b3⟩ := hc j e he
            have hpn := (hr4.2.2 e (List.mem_of_getElem? he)).1
            obtain ⟨e0, e1, eA, en, ec, ep⟩ := e
            simp only [Entry.rec_, Prod.mk.injEq] at hrj
            obtain ⟨rfl, rfl, rfl⟩ := hrj
            simp only at b1 b2 b3 hpn
            have hsplit : G = G.take j ++ (e1, ep) :: G.drop (j + 1) := by
              have h1 := List.take_append_drop j G
              have hjl : j < G.length := by rw [HIN.out]; exact hj
              rw [List.drop_eq_getElem_cons hjl] at h1
              rw [List.getElem?_eq_getElem hjl] at hgj
              rw [Option.some.inj hgj] at h1
              exact h1.symm
            have hnext : (frames (G.take (j + 1))).length = e0 + 44 + en := by
              rw [List.take_add_one, hgj, frames_append, List.length_append, ← hL]
              simp [frames, frameB_length, hpn]
              omega
            have hL20 : e0 ≤ 40880 := by omega
            have hen : en ≤ 40880 := by
              have h1 := congrArg (fun l => (frames l).length) hsplit
              simp only [frames_append, frames, List.length_append, frameB_length] at h1
              have h2 := HBL.out
              rw [HBB.out] at h2
              omega
            obtain ⟨p1, hp1⟩ : ∃ p1, p1 = e0 + 44 := ⟨_, rfl⟩
            obtain ⟨p2, hp2⟩ : ∃ p2, p2 = p1 + en := ⟨_, rfl⟩
            have y1 : (e0 : Int) + 44 = (p1 : Int) := by omega
            have y1' : IntKind.i64.wrap (p1 : Int) = (p1 : Int) := by rw [IntKind.wrap_i64]; omega
            have y2 : (p1 : Int) + (en : Int) = (p2 : Int) := by omega
            have y2' : IntKind.i64.wrap (p2 : Int) = (p2 : Int) := by rw [IntKind.wrap_i64]; omega
            have dj : decide ((j : Int) < (i : Int)) = true := by simp; omega
            have hji : (j : Int) < (i : Int) := by omega
            have HL := Lib.hid hL
            have HSP := Lib.hid hsplit
            have HNX := Lib.hid hnext
            have HH := Lib.hid hh
            have HBl := Lib.hid hBl
            have HPN := Lib.hid hpn
            have HEJ := Lib.hid he
            clear hL hsplit hnext hh hBl hr4 hgj he hc hpn
            by_cases hle : p2 ≤ at_
            · have dle : decide ((p2 : Int) ≤ (at_ : Int)) = true := by simp; omega
              have hj1 : j + 1 < i := by
                rcases Nat.lt_or_ge (j + 1) i with h | h
                · exact h
                · exfalso
                  have h3 := HNX.out
                  rw [List.take_of_length_le (by rw [HIN.out]; omega), ← HBB.out, HBL.out] at h3
                  omega
              have hp2e : p2 = e0 + 44 + en := by omega
              have HP2 := Lib.hid hp2e
              clear hp1 hp2 hp2e
              go_wp2_with fail
              go_quiet (fail)
              have HB5 := Lib.hid (Below.dn HBl.out nq)
              have HH5 : Hid ((wr.drewN nq).heap = w4.heap) := HH.out
              clear b1 b2 b3
              generalize wr.drewN nq = w5 at *
              go_wp2_with fail
              go_roundw
              case rel => exact ⟨j + 1, by go_num, hj1, by rw [HNX.out, ← HP2.out]; exact hle, HH5.out, HB5.out⟩
              case measure => simp [intOf]; omega
            · have dle : decide ((p2 : Int) ≤ (at_ : Int)) = false := by simp; omega
              have hp2e : p2 = e0 + 44 + en := by omega
              have HP2 := Lib.hid hp2e
              clear hp1 hp2 hp2e
              go_wp2_with fail
              go_quiet (fail)
              have HB5 := Lib.hid (Below.dn HBl.out nq)
              have HH5 : Hid ((wr.drewN nq).heap = w4.heap) := HH.out
              clear b1 b2 b3
              generalize wr.drewN nq = w5 at *
              have sh : ∀ w', (Instr.slice 22 (.slice A7 n7 c7) none (some (.int .i64 (at_ : Int))) none).run Try.prog w' = .ok (.slice A7 at_ c7) w' := slice_h A7 n7 c7 at_ (by omega)
              have sh65 : ∀ w', (Instr.slice 65 (.slice (some ⟨g, 0, none⟩) i c8) none (some (.int .i64 (j : Int))) none).run Try.prog w' = .ok (.slice (some ⟨g, 0, none⟩) j c8) w' := slice_h65 (some ⟨g, 0, none⟩) i c8 j (by have := HREC4.out.le; omega)
              have hsc2 : scan (bb.take at_) 0 = (recsFrom 0 (G.take j), e0) := by
                have hg2 := HGOOD.out
                rw [HSP.out] at hg2
                have := scan_part (G.take j) (G.drop (j + 1)) e1 ep hg2 at_ (by rw [← HL.out]; exact hLj) (by have := HP2.out; rw [← HL.out, HPN.out]; omega)
                rw [← HSP.out, ← HBB.out, ← HL.out] at this
                exact this
              have HSC2 := Lib.hid hsc2
              have hrt : RB w5 A7 at_ (bb.take at_) := (HOWN4.out.read.heap HH5.out).take (by omega)
              have hwq5 := HB5.out.size
              clear hsc2
              go_wp2_with fail
              refine (scan_any A7 at_ c7 (bb.take at_) mx w5 hrt (by omega) (by omega) (cell_later HB5.out HM.out)).mono ?_
              rintro e w6 ⟨A6, m6, c6, l2, rfl, hrec6, hl2, hb6⟩
              rw [HSC2.out] at hl2 ⊢
              have HB6 := Lib.hid (HB5.out.trans (hb6.mono hwq5))
              have hwq6 := HB6.out.size
              have hmx6 := hrec6.max
              have HL6 := Lib.hid hrec6.read
              have hR6 : RecsR w6 (some ⟨g, 0, none⟩) i es := (HREC4.out.read.heap HH5.out).below hb6
              have hb1 : w6.cell? ⟨g, j * 3, none⟩ = some (.int .i64 (e0 : Int)) := by
                obtain ⟨g', e', hc'⟩ := hR6.2.1 (by omega)
                cases e'
                exact (hc' j _ HEJ.out).1
              have HRT := Lib.hid (hR6.take (k := j) (by omega))
              have hseq : Hid (l2.map Entry.rec_ = (es.take j).map Entry.rec_) := by
                show _ = _
                rw [hl2, List.map_take, HES.out, recsFrom_take]
              have hself2 : ((e0 : Int) == (e0 : Int)) = true := by simp
              clear hrt hrec6 hl2 hb6 hR6
              go_wp2_with fail
              refine (same_any A6 m6 c6 (some ⟨g, 0, none⟩) j c8 l2 (es.take j) w6 HL6.out HRT.out hseq.out hmx6).mono ?_
              rintro e w7 ⟨rfl, hb7⟩
              have hfin := HB6.out.trans (hb7.mono hwq6)
              clear hb7 HL6 HRT hb1
              by_cases hate : at_ = e0
              · have dq : ((at_ : Int) != (e0 : Int)) = false := by simp; omega
                have dq2 : ((e0 : Int) == (at_ : Int)) = true := by simp; omega
                clear hate
                go_wp2
                go_ret
                exact ⟨rfl, hfin⟩
              · have dq : ((at_ : Int) != (e0 : Int)) = true := by simp; omega
                go_wp2
                go_ret
                exact ⟨rfl, hfin⟩
end Go.Proofs.Ytinndlofnpkfhaa
