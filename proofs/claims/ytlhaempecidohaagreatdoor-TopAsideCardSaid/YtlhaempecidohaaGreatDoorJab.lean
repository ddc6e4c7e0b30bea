/-
  Plain law: files by name, as a list of pairs: what is got behind a put, a deletion; how many bytes there are.
-/
import Derived.WalkKit
set_option linter.unusedSimpArgs false
set_option linter.unusedVariables false
namespace Go.Proofs.YtlhaempecidohaaGreatDoor
theorem nodup_of_map {α β : Type} (f : α → β) : ∀ {l : List α}, (l.map f).Nodup → l.Nodup
  | [], _ => List.nodup_nil
  | x :: l, h => by
    rw [List.map_cons, List.nodup_cons] at h
    rw [List.nodup_cons]
    exact ⟨fun hx => h.1 (List.mem_map.2 ⟨x, hx, rfl⟩), nodup_of_map f h.2⟩
/-! ### Pairs by name -/
abbrev AL (α : Type) := List (ByteArray × α)
namespace AL
variable {α : Type}
def get (F : AL α) (n : ByteArray) : Option α := (F.find? fun p => decide (p.1 = n)).map (·.2)
def keys (F : AL α) : List ByteArray := F.map (·.1)
def put : AL α → ByteArray → α → AL α
  | [], n, f => [(n, f)]
  | p :: F, n, f => if p.1 = n then (n, f) :: F else p :: put F n f
def del : AL α → ByteArray → AL α
  | [], _ => []
  | p :: F, n => if p.1 = n then F else p :: del F n
theorem get_nil (n : ByteArray) : get ([] : AL α) n = none := rfl
theorem get_cons (p : ByteArray × α) (F : AL α) (n : ByteArray) : get (p :: F) n = if p.1 = n then some p.2 else get F n := by
  unfold get
  rw [List.find?_cons]
  by_cases h : p.1 = n <;> simp [h]
theorem get_none_iff {F : AL α} {n : ByteArray} : get F n = none ↔ n ∉ keys F := by
  induction F with
  | nil => simp [get_nil, keys]
  | cons p F ih =>
    rw [get_cons]
    by_cases h : p.1 = n
    · simp [h, keys]
    · have h' : ¬ n = p.1 := fun e => h e.symm
      simp only [h, if_false, ih, keys, List.map_cons, List.mem_cons, h', false_or]
theorem get_some_mem {F : AL α} {n : ByteArray} {f : α} (h : get F n = some f) : (n, f) ∈ F := by
  induction F with
  | nil => cases h
  | cons p F ih =>
    rw [get_cons] at h
    split at h
    · rename_i e
      cases h
      rw [← e]
      exact List.mem_cons_self
    · exact List.mem_cons_of_mem _ (ih h)
theorem get_of_mem {F : AL α} (hn : (keys F).Nodup) {n : ByteArray} {f : α} (h : (n, f) ∈ F) : get F n = some f := by
  induction F with
  | nil => cases h
  | cons p F ih =>
    rw [keys, List.map_cons, List.nodup_cons] at hn
    rw [get_cons]
    rcases List.mem_cons.1 h with rfl | h
    · rw [if_pos rfl]
    · rw [if_neg ?_]
      · exact ih hn.2 h
      · intro e
        refine hn.1 ?_
        rw [e]
        exact List.mem_map.2 ⟨_, h, rfl⟩
theorem get_put_same (F : AL α) (n : ByteArray) (f : α) : get (put F n f) n = some f := by
  induction F with
  | nil => simp [put, get_cons]
  | cons p F ih =>
    unfold put
    split
    · rw [get_cons, if_pos rfl]
    · rename_i h; rw [get_cons, if_neg h, ih]
theorem get_put_other (F : AL α) {n m : ByteArray} (f : α) (h : m ≠ n) : get (put F n f) m = get F m := by
  induction F with
  | nil => rw [put, get_cons, if_neg (fun e => h e.symm)]
  | cons p F ih =>
    unfold put
    split
    · rename_i e
      rw [get_cons, get_cons, if_neg (fun e' => h e'.symm), if_neg (fun e' => h (e'.symm.trans e))]
    · rw [get_cons, get_cons, ih]
theorem get_put (F : AL α) (n m : ByteArray) (f : α) : get (put F n f) m = if m = n then some f else get F m := by
  split
  · rename_i h; rw [h, get_put_same]
  · rename_i h; exact get_put_other F f h
theorem keys_put_old {F : AL α} {n : ByteArray} (h : n ∈ keys F) (f : α) : keys (put F n f) = keys F := by
  induction F with
  | nil => cases h
  | cons p F ih =>
    unfold put
    by_cases e : p.1 = n
    · rw [if_pos e, ← e]; rfl
    · rw [if_neg e]
      have h' : n ∈ keys F := by
        rcases List.mem_cons.1 h with h | h
        · exact absurd h.symm e
        · exact h
      show p.1 :: keys (put F n f) = p.1 :: keys F
      rw [ih h']
theorem keys_put_new {F : AL α} {n : ByteArray} (h : n ∉ keys F) (f : α) : keys (put F n f) = keys F ++ [n] := by
  induction F with
  | nil => rfl
  | cons p F ih =>
    have e : ¬ p.1 = n := fun e => h (by rw [← e]; exact List.mem_cons_self)
    unfold put
    rw [if_neg e]
    show p.1 :: keys (put F n f) = p.1 :: keys F ++ [n]
    rw [ih (fun h' => h (List.mem_cons_of_mem _ h'))]
    rfl
theorem nodup_put {F : AL α} (hn : (keys F).Nodup) (n : ByteArray) (f : α) : (keys (put F n f)).Nodup := by
  by_cases h : n ∈ keys F
  · rw [keys_put_old h]; exact hn
  · rw [keys_put_new h, List.nodup_append]
    refine ⟨hn, by simp, ?_⟩
    intro a ha b hb e
    rw [List.mem_singleton] at hb
    exact h (by rw [← hb, ← e]; exact ha)
theorem keys_del_sub (F : AL α) (n : ByteArray) : (keys (del F n)).Sublist (keys F) := by
  induction F with
  | nil => exact List.Sublist.refl _
  | cons p F ih =>
    unfold del
    split
    · exact List.sublist_cons_self _ _
    · exact ih.cons_cons _
theorem nodup_del {F : AL α} (hn : (keys F).Nodup) (n : ByteArray) : (keys (del F n)).Nodup := hn.sublist (keys_del_sub F n)
theorem get_del {F : AL α} (hn : (keys F).Nodup) (n m : ByteArray) : get (del F n) m = if m = n then none else get F m := by
  induction F with
  | nil => simp [del, get_nil]
  | cons p F ih =>
    rw [keys, List.map_cons, List.nodup_cons] at hn
    unfold del
    by_cases h : p.1 = n
    · rw [if_pos h]
      split
      · rename_i e
        rw [get_none_iff]
        rw [e, ← h]
        exact hn.1
      · rename_i e
        rw [get_cons, if_neg (fun e' => e (e'.symm.trans h))]
    · rw [if_neg h, get_cons, ih hn.2, get_cons]
      by_cases e : m = n
      · rw [if_pos e, if_pos e, if_neg (fun e' => h (e'.trans e))]
      · rw [if_neg e, if_neg e]
/-- two disks with the same files -/
theorem perm_of_get {F G : AL α} (hF : (keys F).Nodup) (hG : (keys G).Nodup) (h : ∀ n, get F n = get G n) : F.Perm G := by
  have nF : F.Nodup := nodup_of_map _ hF
  have nG : G.Nodup := nodup_of_map _ hG
  refine (List.perm_ext_iff_of_nodup nF nG).2 (fun p => ?_)
  obtain ⟨n, f⟩ := p
  constructor
  · intro hp
    exact get_some_mem (by rw [← h, get_of_mem hF hp])
  · intro hp
    exact get_some_mem (by rw [h, get_of_mem hG hp])
theorem keys_perm {F G : AL α} (h : F.Perm G) : (keys F).Perm (keys G) := h.map _
end AL
structure FileS where
  b : List Nat
  safe : Nat
  ever : Bool
abbrev DiskF := AL FileS
/-- a file that is wholly safe -/
def safeF (b : List Nat) : FileS := ⟨b, b.length, true⟩
def FileS.whole (f : FileS) : Bool := f.ever && decide (f.safe = f.b.length)
theorem safeF_whole (b : List Nat) : (safeF b).whole = true := by simp [safeF, FileS.whole]
namespace AL
def total (F : DiskF) : Nat := (F.map fun p => p.2.b.length).sum
def lenAt (F : DiskF) (n : ByteArray) : Nat := ((get F n).map fun f => f.b.length).getD 0
theorem total_put (F : DiskF) (n : ByteArray) (f : FileS) : total (put F n f) + lenAt F n = total F + f.b.length := by
  induction F with
  | nil => simp [put, total, lenAt, get_nil]
  | cons p F ih =>
    unfold put lenAt
    rw [get_cons]
    by_cases h : p.1 = n
    · simp [h, total]; omega
    · simp only [h, if_false]
      have e1 : total (p :: put F n f) = p.2.b.length + total (put F n f) := by simp [total]
      have e2 : total (p :: F) = p.2.b.length + total F := by simp [total]
      unfold lenAt at ih
      rw [e1, e2]
      omega
theorem total_del (F : DiskF) (n : ByteArray) : total (del F n) + lenAt F n = total F := by
  induction F with
  | nil => simp [del, total, lenAt, get_nil]
  | cons p F ih =>
    unfold del lenAt
    rw [get_cons]
    by_cases h : p.1 = n
    · simp [h, total]; omega
    · simp only [h, if_false]
      have e1 : total (p :: del F n) = p.2.b.length + total (del F n) := by simp [total]
      have e2 : total (p :: F) = p.2.b.length + total F := by simp [total]
      unfold lenAt at ih
      rw [e1, e2]
      omega
theorem total_perm {F G : DiskF} (h : F.Perm G) : total F = total G := (h.map _).sum_nat
end AL
end Go.Proofs.YtlhaempecidohaaGreatDoor
