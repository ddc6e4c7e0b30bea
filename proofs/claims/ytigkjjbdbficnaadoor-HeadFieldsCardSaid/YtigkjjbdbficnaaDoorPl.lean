/-
  Heads in plain Lean: lines, fields, and that both ways of reading them are one.
-/
import Derived.Test.YtigkjjbdbficnaaDoorStr
import Derived.Lib.SlTrimSet
import Derived.Lib.IndexLaws
namespace Go.Proofs.YtigkjjbdbficnaaDoor

abbrev U := List UInt8
def nu (u : U) : List Nat := u.map UInt8.toNat
def st (u : U) : ByteArray := ⟨u.toArray⟩
def un (l : List Nat) : U := l.map UInt8.ofNat
theorem nu_lt (u : U) : ∀ x ∈ nu u, x < 256 := by
  intro x hx
  simp only [nu, List.mem_map] at hx
  obtain ⟨y, _, rfl⟩ := hx
  exact y.toNat_lt
theorem nu_length (u : U) : (nu u).length = u.length := by simp [nu]
theorem nu_take (u : U) (k : Nat) : (nu u).take k = nu (u.take k) := by simp [nu, List.map_take]
theorem nu_drop (u : U) (k : Nat) : (nu u).drop k = nu (u.drop k) := by simp [nu, List.map_drop]
theorem st_size (u : U) : (st u).size = u.length := by show u.toArray.size = _; simp
theorem st_data (u : U) : (st u).data.toList = u := by simp [st]
theorem str_nu (u : U) : str (nu u) = st u := by simp [str, nu, st, Function.comp_def]
theorem ofStr_st (u : U) : ofStr (st u) = nu u := by simp [ofStr, nu, st]
theorem st_of (s : ByteArray) : st s.data.toList = s := by simp [st]
theorem st_inj {u v : U} (h : st u = st v) : u = v := by rw [← st_data u, h, st_data]
theorem nu_un {l : List Nat} (h : ∀ x ∈ l, x < 256) : nu (un l) = l := by
  simp only [nu, un, List.map_map]
  rw [List.map_congr_left (g := id)]
  · simp
  · intro x hx
    simp only [Function.comp, id, UInt8.toNat_ofNat']
    exact Nat.mod_eq_of_lt (h x hx)
theorem un_length (l : List Nat) : (un l).length = l.length := by simp [un]

/-! ### The first place of a byte -/
def idx (c : UInt8) (u : U) : Nat := u.findIdx fun x => decide (x = c)
theorem idx_le (c : UInt8) (u : U) : idx c u ≤ u.length := List.findIdx_le_length
theorem idx_at {c : UInt8} {u : U} (h : idx c u < u.length) : u[idx c u]? = some c := by
  have := List.findIdx_getElem (p := fun x => decide (x = c)) (xs := u) (w := h)
  rw [List.getElem?_eq_getElem h]
  exact congrArg some (of_decide_eq_true this)
theorem idx_not {c : UInt8} {u : U} {j : Nat} (h : j < idx c u) : u[j]? ≠ some c := by
  have h1 := List.not_of_lt_findIdx (p := fun x => decide (x = c)) (xs := u) h
  have hl : j < u.length := Nat.lt_of_lt_of_le h (idx_le c u)
  rw [List.getElem?_eq_getElem hl]
  intro e
  injection e with e
  rw [e] at h1
  simp at h1
theorem indexByte_idx (c : UInt8) (u : U) : Lib.indexByte u c = if idx c u < u.length then (idx c u : Int) else -1 := by
  induction u with
  | nil => simp [Lib.indexByte, idx]
  | cons b l ih =>
    rw [Lib.indexByte]
    by_cases hb : b = c
    · subst hb
      have e : idx b (b :: l) = 0 := by simp [idx, List.findIdx_cons]
      rw [e, if_pos (by simp), if_pos (by simp)]
      rfl
    · have e : idx c (b :: l) = idx c l + 1 := by
        unfold idx
        rw [List.findIdx_cons, decide_eq_false hb]
        rfl
      rw [e, ih, if_neg (by simpa using hb)]
      simp only [beq_iff_eq, List.length_cons]
      by_cases h : idx c l < l.length
      · rw [if_pos h, if_neg (by omega), if_pos (by omega)]; omega
      · rw [if_neg h, if_pos rfl, if_neg (by omega)]
/-- What is found is where the first one is. -/
theorem idx_eq {c : UInt8} {u : U} {k : Nat} (h1 : ∀ j, j < k → u[j]? ≠ some c) (h2 : k ≤ u.length) (h3 : k < u.length → u[k]? = some c) : idx c u = k := by
  rcases Nat.lt_trichotomy (idx c u) k with h | h | h
  · exact absurd (idx_at (by omega)) (h1 _ h)
  · exact h
  · exact absurd (h3 (by have := idx_le c u; omega)) (idx_not h)

/-! ### Lines -/
/-- How many bytes stand ahead of the first line's end. -/
def nl (u : U) : Nat := idx 10 u
/-- A first line's length, its end counted. -/
def ln (u : U) : Nat := min (nl u + 1) u.length
theorem nl_le (u : U) : nl u ≤ u.length := idx_le 10 u
theorem ln_le (u : U) : ln u ≤ u.length := Nat.min_le_right _ _
theorem ln_pos {u : U} (h : 0 < u.length) : 0 < ln u := by unfold ln; omega
/-- Without that byte at its end. -/
def t1 (c : UInt8) (u : U) : U := if u.getLast? = some c then u.dropLast else u
theorem t1_le (c : UInt8) (u : U) : (t1 c u).length ≤ u.length := by unfold t1; split <;> simp
theorem trimSuffix_t1 (c : UInt8) (u : U) : Lib.trimSuffix u [c] = t1 c u := by
  unfold Lib.trimSuffix t1 Lib.hasSuffix
  rcases List.eq_nil_or_concat u with rfl | ⟨v, x, rfl⟩
  · simp
  · rw [List.concat_eq_append]
    have e : (v ++ [x]).getLast? = some x := by simp
    by_cases hx : x = c
    · subst hx
      rw [if_pos (by rw [List.isSuffixOf_iff_suffix]; exact ⟨v, rfl⟩), if_pos e]
      simp
    · rw [if_neg (c := (v ++ [x]).getLast? = some c) (by rw [e]; intro h; injection h with h; exact hx h), if_neg]
      rw [List.isSuffixOf_iff_suffix]
      rintro ⟨t, ht⟩
      have := congrArg List.getLast? ht
      simp at this
      exact hx this.symm
def bareU (u : U) : U := t1 13 (u.take (nl u))
theorem bareU_le (u : U) : (bareU u).length ≤ nl u := Nat.le_trans (t1_le _ _) (by rw [List.length_take]; exact Nat.min_le_left _ _)
theorem getLast_nl (u : U) : (u.take (nl u)).getLast? ≠ some 10 := by
  intro h
  rw [List.getLast?_eq_getElem?, List.getElem?_take] at h
  split at h
  · exact idx_not (c := 10) (u := u) (by unfold nl at *; omega) h
  · cases h
theorem bare_ln (u : U) : t1 13 (t1 10 (u.take (ln u))) = bareU u := by
  unfold bareU
  congr 1
  by_cases h : nl u < u.length
  · have e : ln u = nl u + 1 := by unfold ln; omega
    have e2 : u.take (nl u + 1) = u.take (nl u) ++ [10] := by rw [List.take_add_one, nl, idx_at h]; rfl
    rw [e, e2, t1, if_pos (by simp), List.dropLast_concat]
  · have e : nl u = u.length := by have := nl_le u; omega
    have e1 : ln u = nl u := by unfold ln; omega
    rw [e1, t1, if_neg (getLast_nl u)]
/-- A line that is an end alone. -/
def isEnd (u : U) : Bool := decide (nl u < u.length) && (bareU u).isEmpty
theorem bareU_nil {u : U} (h : bareU u = []) : nl u ≤ 1 := by
  have h1 := nl_le u
  have hl : (u.take (nl u)).length = nl u := by rw [List.length_take]; omega
  unfold bareU t1 at h
  split at h
  · have := congrArg List.length h
    rw [List.length_dropLast, hl] at this
    simp at this
    omega
  · have := congrArg List.length h
    rw [hl] at this
    simp at this
    omega
def emptyU (u : U) : Bool := decide (u = [10]) || decide (u = [13, 10])
theorem emptyU_end (u : U) : emptyU (u.take (ln u)) = isEnd u := by
  unfold emptyU isEnd
  by_cases h : nl u < u.length
  · have e : ln u = nl u + 1 := by unfold ln; omega
    have e2 : u.take (nl u + 1) = u.take (nl u) ++ [10] := by rw [List.take_add_one, nl, idx_at h]; rfl
    rw [e, e2, decide_eq_true h, Bool.true_and, Bool.eq_iff_iff]
    have hl : (u.take (nl u)).length = nl u := by rw [List.length_take]; omega
    simp only [Bool.or_eq_true, decide_eq_true_eq, List.isEmpty_iff]
    unfold bareU
    generalize u.take (nl u) = v
    constructor
    · rintro (h | h)
      · have : v = [] := by simpa using h
        subst this; rfl
      · have : v = [13] := List.append_cancel_right (show v ++ [10] = [13] ++ [10] from h)
        subst this; rfl
    · intro h
      unfold t1 at h
      split at h
      · rename_i hv
        right
        have h1 : v.length ≤ 1 := by have := congrArg List.length h; simp at this; omega
        match v, hv, h1 with
        | [x], hv, _ => simp at hv; subst hv; rfl
      · left; rw [h]; rfl
  · have e : ln u = u.length := by unfold ln; omega
    rw [e, List.take_length, decide_eq_false h, Bool.false_and]
    have hm : (10 : UInt8) ∉ u := by
      intro hm
      obtain ⟨j, hj⟩ := List.getElem?_of_mem hm
      have hjl := (List.getElem?_eq_some_iff.1 hj).1
      exact idx_not (c := 10) (u := u) (by unfold nl at h; omega) hj
    rw [decide_eq_false (fun e => hm (by rw [e]; simp)), decide_eq_false (fun e => hm (by rw [e]; simp))]
    rfl

/-! ### A head -/
def hn (u : U) : Nat := if _h : u.length = 0 then 0 else if isEnd u then ln u else ln u + hn (u.drop (ln u))
termination_by u.length
decreasing_by
  have := ln_pos (u := u) (by omega)
  rw [List.length_drop]; omega
theorem hn_nil {u : U} (h : u.length = 0) : hn u = 0 := by rw [hn, dif_pos h]
theorem hn_end {u : U} (h : 0 < u.length) (he : isEnd u = true) : hn u = ln u := by rw [hn, dif_neg (by omega), if_pos he]
theorem hn_more {u : U} (h : 0 < u.length) (he : isEnd u = false) : hn u = ln u + hn (u.drop (ln u)) := by rw [hn, dif_neg (by omega), if_neg (by simp [he])]
theorem hn_le : ∀ (m : Nat) (u : U), u.length ≤ m → hn u ≤ u.length := by
  intro m
  induction m with
  | zero => intro u h; rw [hn_nil (by omega)]; omega
  | succ m ih =>
    intro u h
    rcases Nat.eq_zero_or_pos u.length with h0 | h0
    · rw [hn_nil h0]; omega
    · have h1 := ln_pos h0
      have h2 := ln_le u
      cases he : isEnd u
      · rw [hn_more h0 he]
        have := ih (u.drop (ln u)) (by rw [List.length_drop]; omega)
        rw [List.length_drop] at this
        omega
      · rw [hn_end h0 he]; exact h2
theorem hn_le' (u : U) : hn u ≤ u.length := hn_le _ u (Nat.le_refl _)

/-! ### Fields -/
abbrev F := U × U
def okc (c : UInt8) : Bool := decide (33 ≤ c.toNat) && decide (c.toNat ≤ 126)
/-- How far a name goes. -/
def kk (s : U) : Nat := s.findIdx fun c => !(okc c) || c == 58
def good (s : U) : Bool := decide (0 < kk s) && decide (s[kk s]? = some 58)
def blank (s : U) : Bool := decide (s[0]? = some 32) || decide (s[0]? = some 9)
def glue (l : List F) (s : U) : List F := l.modify (l.length - 1) fun f => (f.1, f.2 ++ s)
def step (s : U) (x : List F × Bool) : List F × Bool :=
  if blank s then (if x.2 then (glue x.1 s, x.2) else x)
  else if good s then (x.1 ++ [(s.take (kk s), s.drop (kk s + 1))], true) else (x.1, false)
/-- As the program reads fields: line by line, to the end. -/
def pf (u : U) (x : List F × Bool) : List F := if _h : u.length = 0 then x.1 else pf (u.drop (ln u)) (step (bareU u) x)
termination_by u.length
decreasing_by
  have := ln_pos (u := u) (by omega)
  rw [List.length_drop]; omega
/-- As the document reads them: till the line that is an end alone. -/
def ph (u : U) (x : List F × Bool) : List F := if _h : u.length = 0 then x.1 else if isEnd u then x.1 else ph (u.drop (ln u)) (step (bareU u) x)
termination_by u.length
decreasing_by
  have := ln_pos (u := u) (by omega)
  rw [List.length_drop]; omega
theorem pf_nil {u : U} (h : u.length = 0) (x) : pf u x = x.1 := by rw [pf, dif_pos h]
theorem pf_more {u : U} (h : 0 < u.length) (x) : pf u x = pf (u.drop (ln u)) (step (bareU u) x) := by rw [pf, dif_neg (by omega)]
theorem ph_nil {u : U} (h : u.length = 0) (x) : ph u x = x.1 := by rw [ph, dif_pos h]
theorem ph_end {u : U} (h : isEnd u = true) (x) : ph u x = x.1 := by
  unfold ph
  rw [if_pos h]
  split <;> rfl
theorem ph_more {u : U} (h : 0 < u.length) (he : isEnd u = false) (x) : ph u x = ph (u.drop (ln u)) (step (bareU u) x) := by rw [ph, dif_neg (by omega), if_neg (by simp [he])]

theorem idx_take (c : UInt8) (u : U) {k : Nat} (h : idx c u < k) : idx c (u.take k) = idx c u := by
  have hle := idx_le c u
  apply idx_eq
  · intro j hj
    rw [List.getElem?_take_of_lt (by omega)]
    exact idx_not hj
  · rw [List.length_take]; omega
  · intro hl
    rw [List.length_take] at hl
    rw [List.getElem?_take_of_lt h]
    exact idx_at (by omega)
theorem step_nil (x : List F × Bool) : (step [] x).1 = x.1 := by simp [step, blank, good, kk]
theorem pf_ph : ∀ (m : Nat) (u : U) (x : List F × Bool), u.length ≤ m → pf (u.take (hn u)) x = ph u x := by
  intro m
  induction m with
  | zero => intro u x h; rw [hn_nil (by omega), pf_nil (by simp), ph_nil (by omega)]
  | succ m ih =>
    intro u x h
    rcases Nat.eq_zero_or_pos u.length with h0 | h0
    · rw [hn_nil h0, pf_nil (by simp), ph_nil h0]
    · have h1 := ln_pos h0
      have h2 := ln_le u
      have h3 := hn_le' u
      -- the first line is the head's first line
      have key : ∀ k, ln u ≤ k → k ≤ u.length → nl (u.take k) = nl u ∧ ln (u.take k) = ln u ∧ bareU (u.take k) = bareU u := by
        intro k hk hku
        have e1 : nl (u.take k) = nl u := by
          by_cases hc : nl u < u.length
          · exact idx_take 10 u (by unfold ln nl at *; omega)
          · have : k = u.length := by unfold ln at hk; omega
            rw [this, List.take_length]
        refine ⟨e1, ?_, ?_⟩
        · unfold ln at *; rw [e1, List.length_take]; omega
        · unfold bareU; rw [e1, List.take_take]; congr 2; unfold ln at hk; have := nl_le u; omega
      cases he : isEnd u
      · have hh := hn_more h0 he
        have h4 := hn_le' (u.drop (ln u))
        rw [List.length_drop] at h4
        obtain ⟨-, k2, k3⟩ := key (hn u) (by omega) h3
        rw [pf_more (by rw [List.length_take]; omega), ph_more h0 he, k2, k3, ← ih (u.drop (ln u)) _ (by rw [List.length_drop]; omega)]
        congr 1
        rw [List.drop_take, hh]
        congr 1
        omega
      · have hh := hn_end h0 he
        obtain ⟨-, k2, k3⟩ := key (hn u) (by omega) h3
        rw [pf_more (by rw [List.length_take]; omega), ph_end he, k2, k3, pf_nil (by rw [List.length_drop, List.length_take]; omega)]
        have : bareU u = [] := by
          unfold isEnd at he
          simp only [Bool.and_eq_true, List.isEmpty_iff] at he
          exact he.2
        rw [this, step_nil]

/-! ### The program's way to a name -/
def nameok (s : U) : Bool := decide (0 < s.length) && s.all okc
theorem good_prog (s : U) : good s = (decide (idx 58 s < s.length) && nameok (s.take (idx 58 s))) ∧ (good s = true → kk s = idx 58 s) := by
  have hle := idx_le 58 s
  have hkl : kk s ≤ s.length := List.findIdx_le_length
  have hk1 : ∀ j, j < kk s → ∀ c, s[j]? = some c → okc c = true ∧ c ≠ 58 := by
    intro j hj c hc
    have := List.not_of_lt_findIdx (p := fun c => !(okc c) || c == 58) (xs := s) hj
    have hjl := (List.getElem?_eq_some_iff.1 hc).1
    have hce := (List.getElem?_eq_some_iff.1 hc).2
    rw [hce] at this
    simpa using this
  have hk2 : good s = true → kk s = idx 58 s := by
    intro hg
    simp only [good, Bool.and_eq_true, decide_eq_true_eq] at hg
    have hkl2 := (List.getElem?_eq_some_iff.1 hg.2).1
    exact (idx_eq (fun j hj e => (hk1 j hj _ e).2 rfl) (by omega) (fun _ => hg.2)).symm
  refine ⟨?_, hk2⟩
  rw [Bool.eq_iff_iff]
  constructor
  · intro hg
    have e := hk2 hg
    simp only [good, Bool.and_eq_true, decide_eq_true_eq] at hg
    have hkl2 := (List.getElem?_eq_some_iff.1 hg.2).1
    simp only [nameok, Bool.and_eq_true, decide_eq_true_eq]
    refine ⟨by omega, by rw [List.length_take]; omega, ?_⟩
    rw [List.all_eq_true]
    intro c hc
    obtain ⟨j, hj⟩ := List.getElem?_of_mem hc
    have hjl := (List.getElem?_eq_some_iff.1 hj).1
    rw [List.length_take] at hjl
    rw [List.getElem?_take_of_lt (by omega)] at hj
    exact (hk1 j (by omega) c hj).1
  · intro h
    simp only [nameok, Bool.and_eq_true, decide_eq_true_eq] at h
    obtain ⟨h1, h2, h3⟩ := h
    rw [List.length_take] at h2
    have hat := idx_at h1
    have e : kk s = idx 58 s := by
      rcases Nat.lt_trichotomy (kk s) (idx 58 s) with h | h | h
      · have hkk : kk s < s.length := by omega
        have hp := List.findIdx_getElem (p := fun c => !(okc c) || c == 58) (xs := s) (w := hkk)
        have hm : s[kk s] ∈ s.take (idx 58 s) := by
          have : (s.take (idx 58 s))[kk s]? = some s[kk s] := by rw [List.getElem?_take_of_lt h, List.getElem?_eq_getElem hkk]
          exact List.mem_of_getElem? this
        have ha := List.all_eq_true.1 h3 _ hm
        have hne : s[kk s] ≠ 58 := fun e => idx_not (c := 58) (u := s) h (by rw [List.getElem?_eq_getElem hkk, e])
        have hp' : (!(okc s[kk s]) || s[kk s] == 58) = true := hp
        rw [ha] at hp'
        simp at hp'
        exact absurd hp' hne
      · exact h
      · exact absurd rfl (hk1 _ h _ hat).2
    simp only [good, Bool.and_eq_true, decide_eq_true_eq, e]
    exact ⟨by omega, hat⟩

/-! ### How great fields are -/
/-- After a bytes: so many fields, so long, and one is there that goes on. -/
def Bd (a : Nat) (x : List F × Bool) : Prop := x.1.length ≤ a ∧ (∀ f ∈ x.1, f.1.length ≤ a ∧ f.2.length ≤ a) ∧ (x.2 = true → 0 < x.1.length)
theorem Bd.nil : Bd 0 ([], false) := ⟨Nat.le_refl _, by simp, by simp⟩
theorem glue_len (l : List F) (s : U) : (glue l s).length = l.length := by simp [glue]
theorem Bd.step' {a k : Nat} {x : List F × Bool} (h : Bd a x) (s : U) (hk : 0 < k) (hs : s.length ≤ k) : Bd (a + k) (step s x) := by
  obtain ⟨h1, h2, h3⟩ := h
  have mono : ∀ f ∈ x.1, f.1.length ≤ a + k ∧ f.2.length ≤ a + k := fun f hf => by have := h2 f hf; omega
  unfold YtigkjjbdbficnaaDoor.step
  split
  · split
    · refine ⟨by simp only [glue_len]; omega, ?_, fun h => by simp only [glue_len]; exact h3 h⟩
      intro f hf
      obtain ⟨j, hj⟩ := List.getElem?_of_mem hf
      simp only [glue, List.getElem?_modify, Option.map_eq_map, Option.map_eq_some_iff] at hj
      obtain ⟨g, hg, rfl⟩ := hj
      have := h2 g (List.mem_of_getElem? hg)
      split
      · simp only [List.length_append]; omega
      · exact ⟨by show g.1.length ≤ _; omega, by show g.2.length ≤ _; omega⟩
    · exact ⟨by omega, mono, h3⟩
  · split
    · refine ⟨by simp; omega, ?_, by simp⟩
      intro f hf
      rcases List.mem_append.1 hf with hf | hf
      · exact mono f hf
      · rw [List.mem_singleton.1 hf]
        simp only [List.length_take, List.length_drop]
        omega
    · exact ⟨by simp; omega, mono, by simp⟩
theorem bare_lt (u : U) : (bareU u).length < ln u + 1 := by
  have := bareU_le u
  have := nl_le u
  unfold ln; omega

/-- The fields as they are handed out: without blanks and tabs around values. -/
def trimV (f : F) : F := (f.1, Lib.trimS f.2 [32, 9])
def heads (u : U) : List F := (ph u ([], false)).map trimV
theorem heads_pf (u : U) : heads u = (pf (u.take (hn u)) ([], false)).map trimV := by rw [heads, pf_ph _ u _ (Nat.le_refl _)]
theorem trimS_le (v cs : U) : (Lib.trimS v cs).length ≤ v.length := by
  unfold Lib.trimS Lib.trimLeftS Lib.trimRightS
  refine Nat.le_trans ((List.dropWhile_suffix _).length_le) ?_
  rw [List.length_reverse]
  refine Nat.le_trans ((List.dropWhile_suffix _).length_le) ?_
  rw [List.length_reverse]
  exact Nat.le_refl _
theorem pf_bd : ∀ (m : Nat) (u : U) (a : Nat) (x : List F × Bool), u.length ≤ m → Bd a x → (pf u x).length ≤ a + u.length ∧ ∀ f ∈ pf u x, f.1.length ≤ a + u.length ∧ f.2.length ≤ a + u.length := by
  intro m
  induction m with
  | zero =>
    intro u a x h hb
    rw [pf_nil (by omega)]
    exact ⟨by have := hb.1; omega, fun f hf => by have := hb.2.1 f hf; omega⟩
  | succ m ih =>
    intro u a x h hb
    rcases Nat.eq_zero_or_pos u.length with h0 | h0
    · rw [pf_nil h0]
      exact ⟨by have := hb.1; omega, fun f hf => by have := hb.2.1 f hf; omega⟩
    · have h1 := ln_pos h0
      have h2 := ln_le u
      rw [pf_more h0]
      have := ih (u.drop (ln u)) (a + ln u) _ (by rw [List.length_drop]; omega) (hb.step' (bareU u) h1 (by have := bare_lt u; omega))
      rw [List.length_drop, show a + ln u + (u.length - ln u) = a + u.length by omega] at this
      exact this
theorem heads_bd (u : U) : (heads u).length ≤ u.length ∧ ∀ f ∈ heads u, f.1.length ≤ u.length ∧ f.2.length ≤ u.length := by
  have hh := hn_le' u
  have hl : (u.take (hn u)).length ≤ u.length := by rw [List.length_take]; omega
  have := pf_bd _ (u.take (hn u)) 0 ([], false) (Nat.le_refl _) Bd.nil
  rw [heads_pf]
  refine ⟨by rw [List.length_map]; omega, fun f hf => ?_⟩
  rw [List.mem_map] at hf
  obtain ⟨g, hg, rfl⟩ := hf
  have h2 := this.2 g hg
  have h3 := trimS_le g.2 [32, 9]
  show g.1.length ≤ _ ∧ (Lib.trimS g.2 [32, 9]).length ≤ _
  omega
end Go.Proofs.YtigkjjbdbficnaaDoor
