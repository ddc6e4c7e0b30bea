/-
  Frames in plain Lean: a frame's head is right, it is scanned as its record.
-/
import Derived.Test.YtinndlofnpkfhaaScn
import Derived.Test.YtinndlofnpkfhaaFrm
namespace Go.Proofs.Ytinndlofnpkfhaa

theorem beb_one {k : Nat} (h : k < 256) : beb k 1 = [k] := by
  have : k % 256 = k := by omega
  simp [beb, bebTo, List.range_succ, this]
theorem frame8_eq {k : Nat} (p : List Nat) (hk : k < 256) : frame8 k p = [99, 117, 98, k] ++ beb p.length 4 := by rw [frame8, beb_one hk]; rfl

theorem hd_frame {k : Nat} {p : List Nat} (rest : List Nat) (h1 : 1 ≤ k) (h2 : k ≤ 3) (hp : p.length ≤ 30000) (_hb : ∀ x ∈ p, x < 256) : hd (frameB k p ++ rest) = some (k, p.length) := by
  have e8 := frame8_length k p
  have hcrc : Crc.crc (frame8 k p) < 256 ^ 4 := Crc.crc_lt _ (frame8_lt k p)
  have q0 : frameB k p ++ rest = frame8 k p ++ (beb (Crc.crc (frame8 k p)) 4 ++ (Sha.digest p ++ (p ++ rest))) := by simp [frameB]
  have hl : 44 ≤ (frameB k p ++ rest).length := by rw [List.length_append, frameB_length]; omega
  have t8 : (frameB k p ++ rest).take 8 = frame8 k p := by rw [q0, List.take_left' e8]
  have d8 : ((frameB k p ++ rest).drop 8).take 4 = beb (Crc.crc (frame8 k p)) 4 := by rw [q0, List.drop_left' e8, List.take_left' (beb_length _ _)]
  have q1 : frameB k p ++ rest = [99, 117, 98] ++ ([k] ++ (beb p.length 4 ++ (beb (Crc.crc (frame8 k p)) 4 ++ (Sha.digest p ++ (p ++ rest))))) := by rw [q0, frame8_eq p (by omega)]; simp
  have t3 : (frameB k p ++ rest).take 3 = [99, 117, 98] := by rw [q1]; rfl
  have d3 : ((frameB k p ++ rest).drop 3).take 1 = [k] := by rw [q1]; rfl
  have d4 : ((frameB k p ++ rest).drop 4).take 4 = beb p.length 4 := by
    rw [q1]
    show (beb p.length 4 ++ _).take 4 = _
    rw [List.take_left' (beb_length _ _)]
  have n1 : num [k] = k := by simp [num]
  unfold hd
  rw [t3, d3, d4, d8, t8, n1, num_beb 4 p.length (by omega), num_beb 4 _ hcrc, if_pos ⟨hl, rfl, h1, h2, hp, rfl⟩]

theorem recAt_frame {k : Nat} {p : List Nat} (pre rest : List Nat) : recAt (pre ++ (frameB k p ++ rest)) pre.length k p.length = [(pre.length, k, p)] := by
  have e8 := frame8_length k p
  have s12 : ((pre ++ (frameB k p ++ rest)).drop (pre.length + 12)).take 32 = Sha.digest p := by
    rw [← List.drop_drop, List.drop_left]
    have q : frameB k p ++ rest = (frame8 k p ++ beb (Crc.crc (frame8 k p)) 4) ++ (Sha.digest p ++ (p ++ rest)) := by simp [frameB]
    rw [q, List.drop_left' (by rw [List.length_append, e8, beb_length]), List.take_left' (Sha.digest_len p)]
  have s44 : ((pre ++ (frameB k p ++ rest)).drop (pre.length + 44)).take p.length = p := by
    rw [← List.drop_drop, List.drop_left]
    have q : frameB k p ++ rest = (frame8 k p ++ beb (Crc.crc (frame8 k p)) 4 ++ Sha.digest p) ++ (p ++ rest) := by simp [frameB]
    rw [q, List.drop_left' (by rw [List.length_append, List.length_append, e8, beb_length, Sha.digest_len]), List.take_left' rfl]
  unfold recAt
  rw [s12, s44, if_pos rfl]

theorem scan_frame {k : Nat} {p : List Nat} (pre rest : List Nat) (h1 : 1 ≤ k) (h2 : k ≤ 3) (hp : p.length ≤ 30000) (hb : ∀ x ∈ p, x < 256) :
    scan (pre ++ (frameB k p ++ rest)) pre.length =
      ((pre.length, k, p) :: (scan (pre ++ (frameB k p ++ rest)) (pre.length + 44 + p.length)).1, (scan (pre ++ (frameB k p ++ rest)) (pre.length + 44 + p.length)).2) := by
  have hh : hd ((pre ++ (frameB k p ++ rest)).drop pre.length) = some (k, p.length) := by rw [List.drop_left]; exact hd_frame rest h1 h2 hp hb
  rw [scan_here hh, if_neg (by simp only [List.length_append, frameB_length]; omega), recAt_frame]
  rfl

theorem scan_over {b : List Nat} {i : Nat} (h : b.length ≤ i) : scan b i = ([], i) := scan_none (find_end h)

/-- bytes in which no head stands, a frame behind them -/
theorem scan_heals {k : Nat} {p : List Nat} (ahead : List Nat) (h1 : 1 ≤ k) (h2 : k ≤ 3) (hp : p.length ≤ 30000) (hb : ∀ x ∈ p, x < 256) (ha : ∀ x ∈ ahead, x ≠ 99) :
    scan (ahead ++ frameB k p) 0 = ([(ahead.length, k, p)], ahead.length + (p.length + 44)) := by
  have hf : find (ahead ++ frameB k p) 0 = find (ahead ++ frameB k p) ahead.length := by
    have := find_skip (b := ahead ++ frameB k p) (i := 0) ahead.length (fun j hj => by
      rw [Nat.zero_add]
      refine hd_none_cub (fun e => ?_)
      rw [List.drop_append_of_le_length (by omega), List.drop_eq_getElem_cons hj] at e
      have := ha _ (List.getElem_mem hj)
      simp only [List.cons_append, List.take_succ_cons, List.cons.injEq] at e
      exact this e.1)
    rwa [Nat.zero_add] at this
  have hh : hd ((ahead ++ frameB k p).drop ahead.length) = some (k, p.length) := by
    rw [List.drop_left]
    have := hd_frame (k := k) (p := p) [] h1 h2 hp hb
    rwa [List.append_nil] at this
  have hs := scan_frame (k := k) (p := p) ahead [] h1 h2 hp hb
  rw [List.append_nil] at hs
  rw [scan_same (hf.trans (find_here hh)), hs, scan_over (by rw [List.length_append, frameB_length]; omega)]
  simp; omega

/-- the same for frames: one behind the other -/
def frames : List (Nat × List Nat) → List Nat
  | [] => []
  | (k, p) :: l => frameB k p ++ frames l
def recsFrom (i : Nat) : List (Nat × List Nat) → List RecP
  | [] => []
  | (k, p) :: l => (i, k, p) :: recsFrom (i + 44 + p.length) l
def good (l : List (Nat × List Nat)) : Prop := ∀ x ∈ l, 1 ≤ x.1 ∧ x.1 ≤ 3 ∧ x.2.length ≤ 30000 ∧ ∀ y ∈ x.2, y < 256
theorem frames_append (l l' : List (Nat × List Nat)) : frames (l ++ l') = frames l ++ frames l' := by
  induction l with
  | nil => rfl
  | cons x l ih => obtain ⟨k, p⟩ := x; rw [List.cons_append, frames, frames, ih, List.append_assoc]
theorem recsFrom_append (i : Nat) (l l' : List (Nat × List Nat)) : recsFrom i (l ++ l') = recsFrom i l ++ recsFrom (i + (frames l).length) l' := by
  induction l generalizing i with
  | nil => rfl
  | cons x l ih =>
    obtain ⟨k, p⟩ := x
    rw [List.cons_append, recsFrom, recsFrom, ih, frames, List.length_append, frameB_length]
    simp only [List.cons_append]
    congr 3
    omega
/-- frames ahead of a rest are scanned as they were -/
theorem scan_frames (l : List (Nat × List Nat)) (hg : good l) (pre rest : List Nat) :
    scan (pre ++ (frames l ++ rest)) pre.length = (recsFrom pre.length l ++ (scan (pre ++ (frames l ++ rest)) (pre.length + (frames l).length)).1, (scan (pre ++ (frames l ++ rest)) (pre.length + (frames l).length)).2) := by
  induction l generalizing pre with
  | nil => simp [frames, recsFrom]
  | cons x l ih =>
    obtain ⟨k, p⟩ := x
    obtain ⟨h1, h2, h3, h4⟩ := hg _ (List.mem_cons_self)
    have ih' := ih (fun y hy => hg y (List.mem_cons_of_mem _ hy)) (pre ++ frameB k p)
    have e : pre ++ frameB k p ++ (frames l ++ rest) = pre ++ (frames ((k, p) :: l) ++ rest) := by simp [frames]
    have e2 : pre ++ (frames ((k, p) :: l) ++ rest) = pre ++ (frameB k p ++ (frames l ++ rest)) := by simp [frames]
    have e3 : (pre ++ frameB k p).length = pre.length + 44 + p.length := by rw [List.length_append, frameB_length]; omega
    rw [e, e3] at ih'
    have hs := scan_frame (k := k) (p := p) pre (frames l ++ rest) h1 h2 h3 h4
    rw [← e2] at hs
    have e4 : pre.length + (frames ((k, p) :: l)).length = pre.length + 44 + p.length + (frames l).length := by rw [frames, List.length_append, frameB_length]; omega
    rw [hs, ih', e4]
    rfl
/-- a frame that is cut off within -/
theorem scan_cut {k : Nat} {p : List Nat} (pre : List Nat) (c : Nat) (h1 : 1 ≤ k) (h2 : k ≤ 3) (hp : p.length ≤ 30000) (hb : ∀ x ∈ p, x < 256) (hc : c < p.length + 44) :
    scan (pre ++ (frameB k p).take c) pre.length = ([], pre.length) := by
  by_cases h44 : c < 44
  · refine scan_none (find_none (fun j hj => hd_none_short ?_))
    rw [List.length_drop, List.length_append, List.length_take]
    omega
  · have hh : hd ((pre ++ (frameB k p).take c).drop pre.length) = some (k, p.length) := by
      rw [List.drop_left]
      have e0 := hd_frame (k := k) (p := p) [] h1 h2 hp hb
      rw [List.append_nil] at e0
      have hl : ((frameB k p).take c).length = c := by rw [List.length_take, frameB_length]; omega
      have e1 : ((frameB k p).take c).take 3 = (frameB k p).take 3 := by rw [List.take_take, show min 3 c = 3 by omega]
      have e2 : ((frameB k p).take c).take 8 = (frameB k p).take 8 := by rw [List.take_take, show min 8 c = 8 by omega]
      have e3 : (((frameB k p).take c).drop 3).take 1 = ((frameB k p).drop 3).take 1 := by rw [List.drop_take, List.take_take, show min 1 (c - 3) = 1 by omega]
      have e4 : (((frameB k p).take c).drop 4).take 4 = ((frameB k p).drop 4).take 4 := by rw [List.drop_take, List.take_take, show min 4 (c - 4) = 4 by omega]
      have e5 : (((frameB k p).take c).drop 8).take 4 = ((frameB k p).drop 8).take 4 := by rw [List.drop_take, List.take_take, show min 4 (c - 8) = 4 by omega]
      rw [← e0]
      unfold hd
      rw [e1, e2, e3, e4, e5, hl, frameB_length]
      simp only [show 44 ≤ c by omega, show 44 ≤ p.length + 44 by omega, true_and]
    rw [scan_here hh, if_pos (by rw [List.length_append, List.length_take, frameB_length]; omega)]
theorem scan_all (l : List (Nat × List Nat)) (hg : good l) : scan (frames l) 0 = (recsFrom 0 l, (frames l).length) := by
  have := scan_frames l hg [] []
  simp only [List.nil_append, List.append_nil, List.length_nil, Nat.zero_add] at this
  rw [this, scan_over (Nat.le_refl _), List.append_nil]
theorem scan_part (l1 l2 : List (Nat × List Nat)) (k : Nat) (p : List Nat) (hg : good (l1 ++ (k, p) :: l2)) (c : Nat) (h1 : (frames l1).length ≤ c) (h2 : c < (frames l1).length + 44 + p.length) :
    scan ((frames (l1 ++ (k, p) :: l2)).take c) 0 = (recsFrom 0 l1, (frames l1).length) := by
  obtain ⟨g1, g2, g3, g4⟩ := hg (k, p) (by simp)
  have e : (frames (l1 ++ (k, p) :: l2)).take c = frames l1 ++ (frameB k p).take (c - (frames l1).length) := by
    rw [frames_append, frames, List.take_append, List.take_append, List.take_of_length_le (by omega : (frames l1).length ≤ c), show c - (frames l1).length - (frameB k p).length = 0 by rw [frameB_length]; omega]
    simp
  rw [e]
  have hs := scan_frames l1 (fun x hx => hg x (List.mem_append_left _ hx)) [] ((frameB k p).take (c - (frames l1).length))
  simp only [List.nil_append, List.length_nil, Nat.zero_add] at hs
  have hcut := scan_cut (k := k) (p := p) (frames l1) (c - (frames l1).length) g1 g2 g3 g4 (by omega)
  rw [hs, hcut, List.append_nil]
theorem recsFrom_get (l : List (Nat × List Nat)) : ∀ (i j k : Nat) (p : List Nat), l[j]? = some (k, p) → (recsFrom i l)[j]? = some (i + (frames (l.take j)).length, k, p) := by
  induction l with
  | nil => intro i j k p h; cases h
  | cons x l ih =>
    obtain ⟨k0, p0⟩ := x
    intro i j k p h
    match j with
    | 0 => cases h; rfl
    | j + 1 =>
      have := ih (i + 44 + p0.length) j k p h
      rw [List.take_succ_cons, frames, List.length_append, frameB_length]
      show (recsFrom (i + 44 + p0.length) l)[j]? = _
      rw [this]
      congr 2
      omega
theorem recsFrom_take (l : List (Nat × List Nat)) : ∀ i j : Nat, (recsFrom i l).take j = recsFrom i (l.take j) := by
  induction l with
  | nil => intro i j; simp [recsFrom]
  | cons x l ih =>
    obtain ⟨k0, p0⟩ := x
    intro i j
    match j with
    | 0 => rfl
    | j + 1 => rw [List.take_succ_cons, recsFrom, recsFrom, List.take_succ_cons, ih]
end Go.Proofs.Ytinndlofnpkfhaa
