/-
  Package disk: there, Read, Remove's, Safe, whole, right, Room: a disk is read. Package disk: right, Safe, Room.
-/
import Derived.Maps.OwnOps
import Derived.BigQuiet
import Derived.Deep.QuietTactic
import Derived.Test.YtlhaempecidohaaGreatDoorJan
import Derived.Test.YtlhaempecidohaaGreatDoorJah
import Derived.Test.YtlhaempecidohaaGreatDoorJak
import Derived.Test.YtlhaempecidohaaGreatDoorJad
import Derived.Test.YtlhaempecidohaaGreatDoorJae
set_option linter.unusedSimpArgs false
set_option linter.unusedVariables false
namespace Go.Proofs.YtlhaempecidohaaGreatDoor
open Go.RowKit
theorem size40 {s : ByteArray} (h : s.size ≤ 40) : Hid (s.size ≤ maxLen) := by
  have : s.size ≤ maxLen := by unfold maxLen; omega
  exact this
section
variable {w : World} {g m cap : Nat} {F : DiskF}
set_option maxHeartbeats 400000 in
theorem there_yes (h : DiskS w g m cap F) {s : ByteArray} (hs : s.size ≤ 40) {f : FileS} (hf : AL.get F s = some f) :
    Calls Tryz.prog 25 #[.pointer (some ⟨g, 0, none⟩), .string s] w fun e w' => e = .returned (.int .i64 0) ∧ Below w.heap.size w w' := by
  obtain ⟨L, hL, hF⟩ := h.map
  obtain ⟨v, hv, A, n, c, rfl, -, -⟩ := (FilesV.get (n := s) hF).2 f hf
  have c1 := h.c1
  have H := Lib.hid h
  have HL := Lib.hid hL
  have HV := Lib.hid hv
  have HS := size40 hs
  clear h hL hF hv hs hf
  go_enter Tryz.func25, Tryz.ntmps25
  go_wp2_with (first
    | (go_at_call 27; refine (gone_ok H.out).mono ?_; rintro e w' ⟨rfl, rfl⟩)
    | (at_lookup; refine wpList_lk _ rfl (.tmp 17) (.tmp 18) 76 true rfl 9 75 Tryz.underlying76 Tryz.underlying9 _ (zero75 _) m _ rfl HL.out s rfl HS.out _ HV.out ?_; simp only [if_true]))
  go_ret
  exact ⟨rfl, (Below.refl _ _).alloc (Nat.le_refl _) _⟩
set_option maxHeartbeats 400000 in
theorem there_no (h : DiskS w g m cap F) {s : ByteArray} (hs : s.size ≤ 40) (hf : AL.get F s = none) :
    Calls Tryz.prog 25 #[.pointer (some ⟨g, 0, none⟩), .string s] w fun e w' => e = .returned (.int .i64 7) ∧ Below w.heap.size w w' := by
  obtain ⟨L, hL, hF⟩ := h.map
  have hv := (FilesV.get (n := s) hF).1 hf
  have c1 := h.c1
  have H := Lib.hid h
  have HL := Lib.hid hL
  have HV := Lib.hid hv
  have HS := size40 hs
  clear h hL hF hv hs hf
  go_enter Tryz.func25, Tryz.ntmps25
  go_wp2_with (first
    | (go_at_call 27; refine (gone_ok H.out).mono ?_; rintro e w' ⟨rfl, rfl⟩)
    | (at_lookup; refine wpList_lkno _ rfl (.tmp 17) (.tmp 18) 76 true rfl 9 75 Tryz.underlying76 Tryz.underlying9 _ (zero75 _) m _ rfl HL.out s rfl HS.out HV.out ?_; simp only [if_true]))
  go_ret
  exact ⟨rfl, (Below.refl _ _).alloc (Nat.le_refl _) _⟩
theorem fld75 (A : Option Addr) (n c : Nat) (y z : Value) (w : World) : (Instr.field 75 (.agg #[.slice A n c, y, z]) 0).run Tryz.prog w = .ok (.slice A n c) w := by kernel_rfl
/-- what a Read hands back -/
def GotB (w : World) (l : List Nat) (e : Ending) (w' : World) : Prop :=
  ∃ A c, e = .returned (.tuple #[.slice A l.length c, .int .i64 0]) ∧ Own w' w.heap.size A l.length c l ∧ Below w.heap.size w w'
set_option maxRecDepth 8000 in
set_option maxHeartbeats 400000 in
theorem read_yes (h : DiskS w g m cap F) {s : ByteArray} (hs : s.size ≤ 40) {f : FileS} (hf : AL.get F s = some f) :
    Calls Tryz.prog 9 #[.pointer (some ⟨g, 0, none⟩), .string s] w (GotB w f.b) := by
  have hlen := total_get hf
  have hfit := h.fits
  have hmost := h.most
  have hth := there_yes h hs hf
  have H := Lib.hid h
  have HF := Lib.hid hf
  have HS := size40 hs
  clear h hf hs
  go_enter Tryz.func9, Tryz.ntmps9
  go_wp2_with fail
  refine hth.mono ?_
  rintro e w1 ⟨rfl, hb1⟩
  have h1 := H.out.below hb1
  obtain ⟨L, hL, hFV⟩ := h1.map
  obtain ⟨v, hv, A, n, c, rfl, hrb, hnc⟩ := (FilesV.get (n := s) hFV).2 f HF.out
  have c1 := h1.c1
  have HL := Lib.hid hL
  have HV := Lib.hid hv
  have hn : n ≤ 10000000 := by rw [← hrb.1]; omega
  obtain rfl : f.b.length = n := hrb.1
  have HR := Lib.hid hrb
  have HB1 := Lib.hid hb1
  clear h1 hL hFV hv hrb hth hb1 hnc hlen hfit hmost
  have hfd := fun w => fld75 A f.b.length c (.int .i64 (f.safe : Int)) (.bool f.ever) w
  go_wp2_with (first
    | (at_lookup; refine wpList_lk _ rfl (.tmp 16) (.tmp 17) 76 false rfl 9 75 Tryz.underlying76 Tryz.underlying9 _ (zero75 _) m _ rfl HL.out s rfl HS.out _ HV.out ?_; simp only [Bool.false_eq_true, if_false])
    | (go_at_call 26; refine (bclone A f.b.length c f.b w1 HR.out hn).mono ?_; rintro e w2 ⟨A2, c2, rfl, hown, hb2⟩))
  go_ret2
  exact ⟨A2, c2, rfl, hown.more (fun k hk => Nat.le_trans HB1.out.size (hown.lt k hk).1), HB1.out.trans (hb2.mono HB1.out.size)⟩
set_option maxHeartbeats 400000 in
theorem read_no (h : DiskS w g m cap F) {s : ByteArray} (hs : s.size ≤ 40) (hf : AL.get F s = none) :
    Calls Tryz.prog 9 #[.pointer (some ⟨g, 0, none⟩), .string s] w fun e w' => e = .returned (.tuple #[.slice none 0 0, .int .i64 7]) ∧ Below w.heap.size w w' := by
  have hth := there_no h hs hf
  clear h hs hf
  go_enter Tryz.func9, Tryz.ntmps9
  go_wp2_with fail
  refine hth.mono ?_
  rintro e w1 ⟨rfl, hb1⟩
  go_wp2
  go_ret2
  exact ⟨rfl, hb1⟩
end
set_option maxHeartbeats 400000 in
theorem whole_yes (A : Option Addr) (n c : Nat) (w : World) :
    Calls Tryz.prog 158 #[.agg #[.slice A n c, .int .i64 (n : Int), .bool true]] w fun e w' => e = .returned (.bool true) ∧ Below w.heap.size w w' := by
  go_enter Tryz.func158, Tryz.ntmps158
  go_wp2
  go_ret
  exact ⟨by simp, (Below.refl _ _).alloc (Nat.le_refl _) _⟩
end Go.Proofs.YtlhaempecidohaaGreatDoor
namespace Go.Proofs.YtlhaempecidohaaGreatDoor
open Go.RowKit
theorem right_at {s : ByteArray} (h : rightN s = true) {k x : Nat} (hx : (ofStr s)[k]? = some x) : (97 ≤ x ∧ x ≤ 122) ∨ (48 ≤ x ∧ x ≤ 57) ∨ x = 46 := by
  unfold rightN at h
  simp only [Bool.and_eq_true, List.all_eq_true, Bool.or_eq_true, decide_eq_true_eq] at h
  have := h.2 x (List.mem_of_getElem? hx)
  omega
set_option maxHeartbeats 1000000 in
theorem right_yes {s : ByteArray} (h : rightN s = true) (w : World) : Calls Tryz.prog 28 #[.string s] w fun e w' => e = .returned (.bool true) ∧ w = w' := by
  have hz : 1 ≤ s.size ∧ s.size ≤ 40 := by
    unfold rightN at h
    simp only [Bool.and_eq_true, decide_eq_true_eq] at h
    exact h.1
  obtain ⟨h1, h40⟩ := hz
  have HR := Lib.hid h
  clear h
  go_enter Tryz.func28, Tryz.ntmps28
  go_wp2
  go_loop [7] (fun i => ∃ k : Nat, k ≤ s.size ∧ i = .int .i64 k) (fun i => s.size - (intOf i).toNat)
  case atStart => exact ⟨0, Nat.zero_le _, rfl⟩
  case round =>
    obtain ⟨k, hk, rfl⟩ := hrel
    by_cases hlt : k < s.size
    · obtain ⟨x, hx, hx2, hix⟩ := ofStr_at s k hlt
      have hc := right_at HR.out hx
      clear hx
      rcases hc with ⟨c1, c2⟩ | ⟨c1, c2⟩ | rfl
      · have n1 : ¬ x < 97 := by omega
        have n2 : ¬ 122 < x := by omega
        clear c1 c2
        go_wp2
        go_round
        case rel => exact ⟨k + 1, by omega, by go_num⟩
        case measure => simp [intOf]; omega
      · have n0 : x < 97 := by omega
        have n1 : ¬ x < 48 := by omega
        have n2 : ¬ 57 < x := by omega
        clear c1 c2
        go_wp2
        go_round
        case rel => exact ⟨k + 1, by omega, by go_num⟩
        case measure => simp [intOf]; omega
      · go_wp2
        go_round
        case rel => exact ⟨k + 1, by omega, by go_num⟩
        case measure => simp [intOf]; omega
    · obtain rfl : k = s.size := by omega
      have d40 : (s.size : Int) ≤ 40 := by omega
      go_wp2
      go_ret
      exact ⟨rfl, rfl⟩
section
variable {w : World} {g m cap : Nat} {F : DiskF}
set_option maxRecDepth 8000 in
set_option maxHeartbeats 400000 in
theorem safe_yes (h : DiskS w g m cap F) {s : ByteArray} (hs : s.size ≤ 40) {b : List Nat} (hf : AL.get F s = some (safeF b)) :
    Calls Tryz.prog 137 #[.pointer (some ⟨g, 0, none⟩), .string s] w fun e w' => e = .returned (.bool true) ∧ Below w.heap.size w w' := by
  obtain ⟨L, hL, hF⟩ := h.map
  obtain ⟨v, hv, A, n, c, rfl, hrb, -⟩ := (FilesV.get (n := s) hF).2 _ hf
  have c1 := h.c1
  have HL := Lib.hid hL
  have hn : (safeF b).b.length = n := hrb.1
  have hn2 : ((safeF b).safe : Int) = (n : Int) := by rw [← hn]; rfl
  have hev : (safeF b).ever = true := rfl
  rw [hn2, hev] at hv
  have HV := Lib.hid hv
  have HS := size40 hs
  clear h hL hF hv hs hf hrb hn hn2 hev
  have hlk := MapS.lookD (P := Tryz.prog) w HL.out Tryz.underlying76 Tryz.underlying9 zero75 HS.out HV.out 0
  change Sem.run Tryz.prog _ w = .ok _ w at hlk
  go_enter Tryz.func137, Tryz.ntmps137
  go_wp2_with (go_at_call 158; refine (whole_yes A n c w).mono ?_; rintro e w2 ⟨rfl, hb2⟩)
  go_ret
  exact ⟨rfl, hb2⟩
end
/-! ### Room -/
theorem FilesV.append {w : World} : ∀ {l1 : AL Value} {p : ByteArray × Value} {l2 : AL Value} {G : DiskF}, FilesV w (l1 ++ p :: l2) G → ∃ g1 q g2, G = g1 ++ q :: g2 ∧ FilesV w (l1 ++ l2) (g1 ++ g2) ∧ FileV w p.2 q.2
  | [], p, l2, q :: G, h => ⟨[], q, G, rfl, h.2, h.1.2⟩
  | x :: l1, p, l2, q :: G, h => by
    obtain ⟨g1, r, g2, e1, e2, e3⟩ := FilesV.append (l1 := l1) (p := p) (l2 := l2) (G := G) h.2
    exact ⟨q :: g1, r, g2, by rw [e1]; rfl, ⟨h.1, e2⟩, e3⟩
  | [], _, _, [], h => h.elim
  | _ :: _, _, _, [], h => h.elim
theorem total_mid (g1 : DiskF) (q : ByteArray × FileS) (g2 : DiskF) : AL.total (g1 ++ q :: g2) = AL.total (g1 ++ g2) + q.2.b.length := by
  simp [AL.total]
  omega
theorem NoB.iter {w : World} {b : Nat} {x : Option Nat} {s : Nat} {a : Array Nat} {c : Nat} (h : w.heap[b]? = some (.mapIter x s a c)) : NoB w b := fun a x ha e => by
  unfold World.cell? at e
  rw [ha, h] at e
  cases e
theorem MapIt.noB {w : World} {b r : Nat} {left : AL Value} (h : MapIt w b r left) : NoB w r := by
  obtain ⟨es, clock, since, seen, c0, _, _, hr, _⟩ := h
  exact NoB.iter hr
section
variable {w : World} {g m cap : Nat} {F : DiskF}
set_option maxRecDepth 8000 in
set_option maxHeartbeats 1000000 in
theorem room_any (h : DiskS w g m cap F) :
    Calls Tryz.prog 19 #[.pointer (some ⟨g, 0, none⟩)] w fun e w' => e = .returned (.int .i64 ((cap - F.total : Nat) : Int)) ∧ Below w.heap.size w w' := by
  obtain ⟨L, hL, hF⟩ := h.map
  have c0 := h.c0
  have c1 := h.c1
  have hfit := h.fits
  have hmost := h.most
  have H := Lib.hid h
  have HL := Lib.hid hL
  have HF := Lib.hid hF
  clear h hL hF
  go_enter Tryz.func19, Tryz.ntmps19
  go_wp2_with (at_range; refine wpList_mrange _ rfl _ 76 rfl 9 75 Tryz.underlying76 m L rfl HL.out ?_; intro w1 hit hb1 hsz1)
  go_frame
  have HB1 := Lib.hid hb1
  have HIT := Lib.hid hit
  have hF1 : Hid (FilesV w1 L F) := HF.out.keep (Only.of_below hb1 (fun _ => False)) (fun _ h => h.elim)
  clear hit hb1
  go_loopw [3] (fun v wr => ∃ (left : AL Value) (G : DiskF) (t : Nat), MapIt wr m w.heap.size left ∧ FilesV wr left G ∧ v = .int .i64 (t : Int) ∧ t + F.total = cap + G.total ∧ G.total ≤ F.total ∧ Below w.heap.size w wr) (fun _ wr => wr.rangeLeft m w.heap.size)
  case atStart => exact ⟨L, F, cap, HIT.out, hF1.out, rfl, rfl, Nat.le_refl _, HB1.out⟩
  case round =>
    obtain ⟨left, G, t, hit, hfv, rfl, ht, hle, hb⟩ := hrel
    have HIT2 := Lib.hid hit
    have HFV := Lib.hid hfv
    have HB := Lib.hid hb
    have HT := Lib.hid ht
    have htc : t ≤ cap := by omega
    clear hit hfv hb ht
    go_wp2_with (at_next; refine wpList_mnext _ rfl _ rfl m w.heap.size left rfl HIT2.out ?_ ?_)
    · intro hl
      obtain rfl := hl
      cases G with
      | nil =>
        have h0 : AL.total ([] : DiskF) = 0 := rfl
        have e : t = cap - F.total := by have := HT.out; omega
        have HE := Lib.hid e
        clear e h0
        go_wp2
        go_ret
        exact ⟨by rw [HE.out]; rfl, HB.out⟩
      | cons q G => exact HFV.out.elim
    · intro l1 nm v l2 w2 hl hit2 ho2 hen
      obtain rfl := hl
      obtain ⟨g1, q, g2, e1, e2, e3⟩ := FilesV.append HFV.out
      obtain ⟨A, n, c, e4, hrb, hnc⟩ := e3
      obtain rfl : v = _ := e4
      have hq : q.2.b.length = n := hrb.1
      have htot : G.total = AL.total (g1 ++ g2) + n := by rw [e1, total_mid, hq]
      have hB2 : Below w.heap.size w w2 := HB.out.trans (ho2.below HB.out.size (fun i hi e => by omega))
      have hF2 : FilesV w2 (l1 ++ l2) (g1 ++ g2) := e2.keep ho2 (fun b e => by rw [e]; exact HIT2.out.noB)
      have hnt : n ≤ t := by have := HT.out; omega
      have HB2 := Lib.hid hB2
      have HF2 := Lib.hid hF2
      have HIT3 := Lib.hid hit2
      have HTOT := Lib.hid htot
      have hLL := Lib.hid (show (l1 ++ (nm, Value.agg #[.slice A n c, .int .i64 (q.2.safe : Int), .bool q.2.ever]) :: l2).length = (l1 ++ l2).length + 1 by simp; omega)
      have hsz2 := hB2.size
      clear e1 e2 hrb hq htot hB2 hF2 hit2 ho2
      go_wp2
      have hsub : Hid ((t : Int) - (n : Int) = ((t - n : Nat) : Int)) := by show _ = _; omega
      go_roundw
      case rel =>
        refine ⟨l1 ++ l2, g1 ++ g2, t - n, HIT3.out.below ((Below.refl _ _).alloc (Nat.le_refl _) _), HF2.out.keep (Only.of_below ((Below.refl _ _).alloc (Nat.le_refl _) _) (fun _ => False)) (fun _ h => h.elim), ?_, ?_, ?_, HB2.out.alloc hsz2 _⟩
        · rw [hsub.out]
        · have := HT.out; have := HTOT.out; omega
        · have := HTOT.out; omega
      case measure =>
        have h3 := HIT3.out.below ((Below.refl w2.heap.size w2).alloc (Nat.le_refl _) (.cells #[.slice A n c, .int .i64 (q.2.safe : Int), .bool q.2.ever] 75))
        rw [h3.left_eq, HIT2.out.left_eq, hLL.out]
        omega
end
end Go.Proofs.YtlhaempecidohaaGreatDoor
