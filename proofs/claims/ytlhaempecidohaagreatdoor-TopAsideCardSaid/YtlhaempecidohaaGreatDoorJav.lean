/-
  Package frame: Scan of frames one behind the other.
-/
import Derived.BigQuiet
import Derived.Deep.QuietTactic
import Derived.Test.YtlhaempecidohaaGreatDoorJau
import Derived.Test.YtlhaempecidohaaGreatDoorJaj
import Derived.Test.YtlhaempecidohaaGreatDoorJag
import Derived.Test.YtlhaempecidohaaGreatDoorJat
set_option linter.unusedSimpArgs false
set_option linter.unusedVariables false
namespace Go.Proofs.YtlhaempecidohaaGreatDoor
open Go.RowKit
/-- what a Scan hands back -/
def Scanned (w : World) (T : TypeId) (r : List RecP × Nat) (e : Ending) (w' : World) : Prop :=
  ∃ A m c es, e = .returned (.tuple #[.slice A m c, .int .i64 (r.2 : Int)]) ∧ Recs w' w.heap.size T A m c es ∧ es.map Entry.rec_ = r.1 ∧ Below w.heap.size w w'
theorem frames_length_one (k : Nat) (p : List Nat) : (frames [(k, p)]).length = 44 + p.length := by
  simp only [frames, List.append_nil, frameB_length]; omega
theorem frames_split (l : List (Nat × List Nat)) (i : Nat) (k : Nat) (p : List Nat) (h : l[i]? = some (k, p)) :
    frames l = frames (l.take i) ++ (frameB k p ++ frames (l.drop (i + 1))) := by
  obtain ⟨hi, e⟩ := List.getElem?_eq_some_iff.1 h
  have e2 := List.drop_eq_getElem_cons hi
  rw [e] at e2
  rw [show frameB k p ++ frames (l.drop (i + 1)) = frames ((k, p) :: l.drop (i + 1)) from rfl, ← e2, ← frames_append, List.take_append_drop]
theorem frames_take_next (l : List (Nat × List Nat)) (i : Nat) (k : Nat) (p : List Nat) (h : l[i]? = some (k, p)) :
    (frames (l.take (i + 1))).length = (frames (l.take i)).length + 44 + p.length ∧ recsFrom 0 (l.take (i + 1)) = recsFrom 0 (l.take i) ++ [((frames (l.take i)).length, k, p)] := by
  obtain ⟨hi, e⟩ := List.getElem?_eq_some_iff.1 h
  have e2 : l.take (i + 1) = l.take i ++ [(k, p)] := by rw [List.take_add_one, h]; rfl
  rw [e2, frames_append, List.length_append, frames_length_one, recsFrom_append, Nat.zero_add]
  exact ⟨by omega, rfl⟩
theorem frames_take_le (l : List (Nat × List Nat)) (i : Nat) : (frames (l.take i)).length ≤ (frames l).length := by
  have := frames_append (l.take i) (l.drop i)
  rw [List.take_append_drop] at this
  rw [this, List.length_append]; omega
theorem frames_idx_le (l : List (Nat × List Nat)) : ∀ i, i ≤ l.length → i ≤ (frames (l.take i)).length
  | 0, _ => Nat.zero_le _
  | i + 1, h => by
    have := (frames_take_next l i l[i].1 l[i].2 (by rw [List.getElem?_eq_getElem (by omega)])).1
    have := frames_idx_le l i (by omega)
    omega
attribute [local irreducible] Calls in
set_option maxRecDepth 8000 in
set_option maxHeartbeats 2000000 in
theorem scan_frames_any (A : Option Addr) (n c : Nat) (l : List (Nat × List Nat)) (w : World) (hg : good l) (hb : RB w A n (frames l)) (hc : n ≤ c) (hn : n ≤ 5000000) :
    Calls Tryz.prog 91 #[.slice A n c] w (Scanned w 166 (recsFrom 0 l, (frames l).length)) := by
  have HR := Lib.hid hb
  have HG := Lib.hid hg
  have HLEN := Lib.hid hb.1
  obtain ⟨z, hz⟩ : ∃ z, z = List.replicate 32 0 := ⟨_, rfl⟩
  have hzl : z.length = 32 := by rw [hz]; simp
  have HZ := Lib.hid hz
  clear hb hz hg
  go_enter Tryz.func91, Tryz.ntmps91
  go_wp2
  go_loopw [4, 5] (fun v4 v5 wr => ∃ (i : Nat) (a : Nat) (A' : Option Addr) (k c' : Nat) (es : List Entry), v4 = .slice A' k c' ∧ v5 = .int .i64 (a : Int) ∧ i ≤ l.length ∧ a = (frames (l.take i)).length ∧ k ≤ a ∧ Recs wr w.heap.size 166 A' k c' es ∧ es.map Entry.rec_ = recsFrom 0 (l.take i) ∧ Below w.heap.size w wr) (fun _ v5 _ => n - (intOf v5).toNat)
  case atStart => exact ⟨0, 0, none, 0, 0, [], rfl, rfl, Nat.zero_le _, rfl, Nat.le_refl _, Recs.nil _ _ _, rfl, Below.refl _ _⟩
  case round =>
    obtain ⟨i, a, A', k, c', es, rfl, rfl, hi, hae, hka, hrec, hs1, hB⟩ := hrel
    have ha : a ≤ n := by rw [hae, ← HLEN.out]; exact frames_take_le l i
    have HREC := Lib.hid hrec
    have HS1 := Lib.hid hs1
    have HAE := Lib.hid hae
    have HB := Lib.hid hB
    have hwq := hB.size
    have hra := (HR.out.below hB).drop (k := a) (cap := c) ha hc
    have HRA := Lib.hid hra
    clear hrec hs1 hB hra hae
    cases hx : l[i]? with
    | none =>
      have hil : l.length ≤ i := List.getElem?_eq_none_iff.1 hx
      have han : ¬ a < n := by rw [HAE.out, List.take_of_length_le hil, HLEN.out]; omega
      have HX : Hid (l.take i = l) := List.take_of_length_le hil
      clear hx hil
      go_wp2
      go_ret2
      exact ⟨A', k, c', es, by rw [HAE.out, HX.out]; rfl, HREC.out, by rw [HS1.out, HX.out], HB.out⟩
    | some r =>
      obtain ⟨kd, p⟩ := r
      obtain ⟨h1, h2, h3, h4⟩ := HG.out _ (List.mem_of_getElem? hx)
      have hsp := frames_split l i kd p hx
      have hnx := frames_take_next l i kd p hx
      have hil : i < l.length := (List.getElem?_eq_some_iff.1 hx).1
      have htl := frames_take_le l (i + 1)
      rw [hnx.1, ← HAE.out, HLEN.out] at htl
      have hdrop : (frames l).drop a = frameB kd p ++ frames (l.drop (i + 1)) := by rw [hsp, HAE.out]; exact List.drop_left
      have hhd : hd ((frames l).drop a) = some (kd, p.length) := by rw [hdrop]; exact hd_frame _ h1 h2 h3 h4
      have hrat : recAt (frames l) a kd p.length = [(a, kd, p)] := by
        have := recAt_frame (k := kd) (p := p) (frames (l.take i)) (frames (l.drop (i + 1)))
        rw [← hsp, ← HAE.out] at this
        exact this
      have han : a < n := by omega
      have HNX := Lib.hid hnx
      have HHD := Lib.hid hhd
      have HRAT := Lib.hid hrat
      dsimp only at h3
      clear hx hsp hnx hdrop hhd hrat h1 h2 h4
      obtain ⟨nn, hnn⟩ : ∃ nn, nn = p.length := ⟨_, rfl⟩
      rw [← hnn] at h3 htl
      have HNN := Lib.hid hnn
      clear hnn
      have sl : ∀ w', (Instr.slice 23 (.slice A n c) (some (.int .i64 (a : Int))) none none).run Tryz.prog w' = .ok (.slice (cut A c a) (n - a) (c - a)) w' := slice_l A n c a ha
      go_wp2_with fail
      refine (head_any (cut A c a) (n - a) (c - a) ((frames l).drop a) wr HRA.out (by omega) (by omega)).mono ?_
      rintro e w1 ⟨x, y, f, rfl, h1, h2, hB1⟩
      obtain ⟨rfl, rfl, rfl⟩ := h1 kd p.length HHD.out
      rw [← HNN.out]
      have HB1 := Lib.hid (HB.out.trans (hB1.mono hwq))
      have HREC1 := Lib.hid (HREC.out.below hB1)
      have hwq1 := HB1.out.size
      clear hB1 HREC sl h1 h2
      have d10 : decide ((n : Int) - (a : Int) - 44 < (nn : Int)) = false := by simp; omega
      obtain ⟨p44, e44⟩ : ∃ p, p = a + 44 := ⟨_, rfl⟩
      obtain ⟨p12, e12⟩ : ∃ p, p = a + 12 := ⟨_, rfl⟩
      obtain ⟨pe, epe⟩ : ∃ p, p = a + 44 + nn := ⟨_, rfl⟩
      obtain ⟨q, eq_⟩ : ∃ p, p = 44 + nn := ⟨_, rfl⟩
      have x1 : (a : Int) + 44 = (p44 : Int) := by omega
      have x1' : IntKind.i64.wrap (p44 : Int) = (p44 : Int) := by rw [IntKind.wrap_i64]; omega
      have x2 : (p44 : Int) - 32 = (p12 : Int) := by omega
      have x2' : IntKind.i64.wrap (p12 : Int) = (p12 : Int) := by rw [IntKind.wrap_i64]; omega
      have x3 : (p44 : Int) + (nn : Int) = (pe : Int) := by omega
      have x4 : (44 : Int) + (nn : Int) = (q : Int) := by omega
      have x5 : (a : Int) + (q : Int) = (pe : Int) := by omega
      have sp : ∀ w', (Instr.slice 23 (.slice A n c) (some (.int .i64 (p44 : Int))) (some (.int .i64 (pe : Int))) none).run Tryz.prog w' = .ok (.slice (cut A c p44) nn (c - p44)) w' := by
        have := slice_lh A n c p44 pe (by omega) (by omega)
        rwa [show pe - p44 = nn by omega] at this
      have sd : ∀ w', (Instr.slice 23 (.slice A n c) (some (.int .i64 (p12 : Int))) (some (.int .i64 (p44 : Int))) none).run Tryz.prog w' = .ok (.slice (cut A c p12) 32 (c - p12)) w' := by
        have := slice_lh A n c p12 p44 (by omega) (by omega)
        rwa [show p44 - p12 = 32 by omega] at this
      have hrp := (HR.out.below HB1.out).mid (lo := p44) (hi := pe) (cap := c) (by omega) (by omega) hc
      have hrd := (HR.out.below HB1.out).mid (lo := p12) (hi := p44) (cap := c) (by omega) (by omega) hc
      rw [show pe - p44 = nn by omega] at hrp
      rw [show p44 - p12 = 32 by omega] at hrd
      obtain ⟨dg, hdg⟩ : ∃ p, p = ((frames l).drop (a + 12)).take 32 := ⟨_, rfl⟩
      obtain ⟨hpay, hdig⟩ : ((frames l).drop (a + 44)).take nn = p ∧ Sha.digest p = dg := by
        have h := HRAT.out
        rw [← HNN.out] at h
        unfold recAt at h
        rw [← hdg] at h
        split at h
        · rename_i hcond
          simp only [List.cons.injEq, Prod.mk.injEq, and_true, true_and] at h
          rw [h] at hcond
          exact ⟨h, hcond⟩
        · cases h
      rw [e44, hpay, ← e44] at hrp
      rw [e12, ← hdg, ← e12] at hrd
      have hpen : pe ≤ n := by omega
      have hape : a < pe := by omega
      have hp44 : p44 ≤ n := by omega
      have HPE : Hid (pe = a + 44 + nn) := epe
      have HRP := Lib.hid hrp
      have HRD := Lib.hid hrd
      clear hpay hdg hrp hrd e44 e12 epe eq_ htl
      go_wp2_with fail
      refine (digest_any (cut A c p44) nn (c - p44) p w1 HRP.out (by omega)).mono ?_
      rintro e w2 ⟨rfl, hb2⟩
      obtain ⟨D, hD⟩ : ∃ D, D = Sha.digest p := ⟨_, rfl⟩
      have hDl : D.length = 32 := by rw [hD]; exact Sha.digest_len p
      have hDlt : ∀ x ∈ D, x < 256 := by rw [hD]; exact Sha.digest_lt p
      rw [← hD]
      obtain ⟨w8, hw8, hs8, hB8, hA8⟩ := lay w2 .u8 138 z
      obtain ⟨w9, hw9, hs9, hB9, hA9, ho9⟩ := putrow D hA8
      have hrD : RB w9 (some ⟨w2.heap.size, 0, none⟩) 32 D := by have := hA9.rb hDlt; rwa [hDl] at this
      have hB29 : Below w1.heap.size w1 w9 := hb2.trans ((hB8.trans hB9).mono hb2.size)
      have HB9 := Lib.hid (HB1.out.trans (hB29.mono hwq1))
      have HRD9 := Lib.hid (HRD.out.below hB29)
      have HRP9 := Lib.hid (HRP.out.below hB29)
      have HREC9 := Lib.hid (HREC1.out.below hB29)
      have HRDD := Lib.hid hrD
      have HW8 := Lib.hid hw8
      have HW9 := Lib.hid hw9
      have HEQ : Hid (D = dg) := hD.trans hdig
      have HA8 := Lib.hid hA8
      have hwq9 := HB9.out.size
      have e1 : Hid ((Tryz.prog.info? 138).map (·.size) = some z.length) := by show _ = _; rw [hzl]; exact s138
      have e2 : Hid (z.length = D.length) := by show _ = _; rw [hzl, hDl]
      clear hb2 hD hdig hDl hDlt hw8 hs8 hB8 hA8 hw9 hs9 hB9 hA9 ho9 hrD hB29 HRP HRD HREC1
      go_wp2_with (first
        | (refine wpList_alloc_ar rfl 138 rfl .u8 32 z138 ?_; rw [← HZ.out, ← HW8.out])
        | (refine wpList_store_ar rfl 138 _ _ rfl rfl w2.heap.size rfl .u8 z D rfl HA8.out e1.out e2.out ?_; rw [← HW9.out]))
      clear HW8 HW9 HA8 e1 e2
      have hbeq : ∀ q : Nat, Calls Tryz.prog 82 #[.slice (some ⟨w2.heap.size, 0, none⟩) 32 32, .slice (cut A c p12) 32 (c - p12)] (w9.drewN q) fun e w' => e = .returned (.bool true) ∧ w' = w9.drewN q := fun q =>
        (bequal_t (some ⟨w2.heap.size, 0, none⟩) 32 32 (cut A c p12) 32 (c - p12) D (w9.drewN q) HRDD.out (by rw [HEQ.out]; exact HRD9.out)).mono fun _ _ ⟨h, k⟩ => ⟨h, k.symm⟩
      go_quiet ((go_at_call 82; exact Calls.quiet_of_same (hbeq _)))
      have HB10 := Lib.hid (Below.dn HB9.out nq)
      have HRP10 : Hid (RB (w9.drewN nq) (cut A c p44) nn p) := HRP9.out
      have HREC10 : Hid (Recs (w9.drewN nq) w.heap.size 166 A' k c' es) := HREC9.out
      generalize w9.drewN nq = w10 at *
      have hwq10 := HB10.out.size
      clear HB9 HRP9 HREC9 HRDD HRD9 hbeq
      go_wp2_with fail
      refine (sclone (cut A c p44) nn (c - p44) p w10 HRP10.out (by omega)).mono ?_
      rintro e w11 ⟨Ac, cc, rfl, hown, hb11⟩
      have HB11 := Lib.hid (HB10.out.trans (hb11.mono hwq10))
      have hrec11 := HREC10.out.below hb11
      have hrc := hown.read
      have happ : ∀ q, blk Ac = some q → blk A' ≠ some q := fun q hq hq2 => by have := (hown.lt q hq).1; have := (HREC10.out.lt q hq2).2; omega
      have hB12 : Below w11.heap.size w11 (w11.alloc (.cells #[.int .i64 (a : Int), .int .i64 (kd : Int), .slice Ac nn cc] 166)) := (Below.refl _ _).alloc (Nat.le_refl _) _
      have hrec12 := hrec11.below hB12
      have hpay12 : Pays (w11.alloc (.cells #[.int .i64 (a : Int), .int .i64 (kd : Int), .slice Ac nn cc] 166)) A' ⟨a, kd, Ac, nn, cc, p⟩ := ⟨hrc.below hB12, fun _ q hq => happ q hq⟩
      have hcells : ∀ (j : Nat) u, (Entry.cells ⟨a, kd, Ac, nn, cc, p⟩)[j]? = some u → (w11.alloc (.cells #[.int .i64 (a : Int), .int .i64 (kd : Int), .slice Ac nn cc] 166)).cell? ⟨w11.heap.size, j, none⟩ = some u := fun j u hu => by
        rw [cell_of_row _ _ j _ 166 (0, 0) (heap_alloc_new w11 _)]
        simpa [Entry.cells] using hu
      have HB12 := Lib.hid (HB11.out.trans (hB12.mono HB11.out.size))
      have hwq12 := HB12.out.size
      clear HB10 HRP10 HREC10 hown hb11 hrec11 hrc happ hB12
      go_wp2_with (first
        | (refine Great.wpList_buildTo rfl 166 _ rfl (some 67) rfl #[.int .i64 (a : Int), .int .i64 (kd : Int), .slice Ac nn cc] (built166 _ _ _ _ _) ?_)
        | (at_builtin; refine wp_append_rec rfl (.tmp 62) (.tmp 68) 162 166 40 und162 inf166 (by decide) rfl rfl rfl hrec12 hcells hpay12 (by omega) hwq12 ?_; intro A13 c13 w13 hrec13 ho13 _))
      have hb13 := HB12.out.trans (ho13.below hwq12 (fun i hi e => by have := (hrec12.lt i e).1; omega))
      have HREC13 := Lib.hid hrec13
      have HB13 := Lib.hid hb13
      clear hrec12 hcells hpay12 ho13 hb13 hrec13 HB12 hwq12
      go_roundw
      case rel =>
        refine ⟨i + 1, pe, A13, k + 1, c13, es ++ [⟨a, kd, Ac, nn, cc, p⟩], rfl, rfl, hil, ?_, by omega, HREC13.out, ?_, HB13.out⟩
        · rw [HNX.out.1, HPE.out, ← HAE.out, HNN.out]
        · rw [HNX.out.2, List.map_append, HS1.out, ← HAE.out]; rfl
      case measure => simp [intOf]; omega
end Go.Proofs.YtlhaempecidohaaGreatDoor
