/-
  SHA-256 in plain Lean: the schedule's and the rounds' laws.
-/
import Derived.Test.YtinndlofnpkfhaaSha
namespace Go.Proofs.Ytinndlofnpkfhaa.Sha

theorem getD_lt {b : List Nat} (hb : ∀ x ∈ b, x < 256) (i : Nat) : b.getD i 0 < 256 := by
  rw [List.getD_eq_getElem?_getD]
  by_cases h : i < b.length
  · rw [List.getElem?_eq_getElem h]; exact hb _ (List.getElem_mem h)
  · rw [List.getElem?_eq_none (by omega)]; decide
theorem be_lt {b : List Nat} (hb : ∀ x ∈ b, x < 256) (i : Nat) : be b i < 4294967296 := by
  unfold be
  have h0 := getD_lt hb (4 * i)
  have h1 := getD_lt hb (4 * i + 1)
  have h2 := getD_lt hb (4 * i + 2)
  have h3 := getD_lt hb (4 * i + 3)
  omega
theorem more_len (w : List Nat) : ∀ n, (more w n).length = w.length + n
  | 0 => rfl
  | n + 1 => by rw [more, List.length_append, more_len w n]; simp; omega
theorem more_get (w : List Nat) (n : Nat) : ∀ d j, j < w.length + n → (more w (n + d)).getD j 0 = (more w n).getD j 0
  | 0, j, _ => rfl
  | d + 1, j, h => by
    rw [← Nat.add_assoc, more, List.getD_eq_getElem?_getD, List.getElem?_append_left (by rw [more_len]; omega), ← List.getD_eq_getElem?_getD]
    exact more_get w n d j h
theorem first_len (b : List Nat) : (first b).length = 16 := by simp [first]
theorem sched_len (b : List Nat) : (sched b).length = 64 := by unfold sched; rw [more_len, first_len]
theorem sched_first (b : List Nat) (j : Nat) (h : j < 16) : (sched b).getD j 0 = be b j := by
  unfold sched
  have := more_get (first b) 0 48 j (by rw [first_len]; exact h)
  rw [Nat.zero_add] at this
  rw [this]
  show (first b).getD j 0 = _
  rw [List.getD_eq_getElem?_getD]
  simp [first, List.getElem?_range h]
theorem sched_next (b : List Nat) (j : Nat) (h : 16 ≤ j) (h2 : j < 64) : (sched b).getD j 0 = nextW (sched b) j := by
  obtain ⟨n, rfl⟩ : ∃ n, j = 16 + n := ⟨j - 16, by omega⟩
  have e0 : (sched b).getD (16 + n) 0 = (more (first b) (n + 1)).getD (16 + n) 0 := by
    have := more_get (first b) (n + 1) (47 - n) (16 + n) (by rw [first_len]; omega)
    rw [show n + 1 + (47 - n) = 48 by omega] at this
    exact this
  have e1 : ∀ i, i < 16 + n → (more (first b) n).getD i 0 = (sched b).getD i 0 := fun i hi => by
    have := more_get (first b) n (48 - n) i (by rw [first_len]; exact hi)
    rw [show n + (48 - n) = 48 by omega] at this
    exact this.symm
  rw [e0, more, List.getD_eq_getElem?_getD, List.getElem?_append_right (by rw [more_len, first_len]; omega), more_len, first_len, Nat.sub_self]
  show nextW (more (first b) n) (16 + n) = nextW (sched b) (16 + n)
  unfold nextW
  rw [e1 _ (by omega), e1 _ (by omega), e1 _ (by omega), e1 _ (by omega)]
theorem sched_lt (b : List Nat) (hb : ∀ x ∈ b, x < 256) (j : Nat) : (sched b).getD j 0 < 4294967296 := by
  by_cases h : j < 16
  · rw [sched_first b j h]; exact be_lt hb j
  · by_cases h2 : j < 64
    · rw [sched_next b j (by omega) h2]; exact Nat.mod_lt _ (by decide)
    · rw [List.getD_eq_getElem?_getD, List.getElem?_eq_none (by rw [sched_len]; omega)]; decide

theorem step_ok {s : St} (h : s.ok) (k w : Nat) : (s.step k w).ok := by
  obtain ⟨ha, hb, hc, hd, he, hf, hg, hh⟩ := h
  exact ⟨Nat.mod_lt _ (by decide), ha, hb, hc, Nat.mod_lt _ (by decide), he, hf, hg⟩
theorem rounds_ok (w : List Nat) {s : St} (h : s.ok) : ∀ n, (rounds w s n).ok
  | 0 => h
  | n + 1 => step_ok (rounds_ok w h n) _ _
theorem add_ok (s t : St) : (s.add t).ok := by
  refine ⟨?_, ?_, ?_, ?_, ?_, ?_, ?_, ?_⟩ <;> exact Nat.mod_lt _ (by decide)
theorem mix_ok (h : St) (b : List Nat) : (mix h b).ok := add_ok _ _
theorem iv_ok : iv.ok := by unfold St.ok; decide +kernel
theorem blocks_ok (l : List Nat) : ∀ n, (blocks l n).ok
  | 0 => iv_ok
  | _ + 1 => mix_ok _ _
theorem padded_len (l : List Nat) : (padded l).length = 64 * ((l.length + 72) / 64) := by
  unfold padded zeros
  simp only [List.length_append, List.length_cons, List.length_replicate, beb_length]
  omega
theorem padded_lt {l : List Nat} (h : ∀ x ∈ l, x < 256) : ∀ x ∈ padded l, x < 256 := by
  intro x hx
  unfold padded at hx
  simp only [List.mem_append, List.mem_cons, List.mem_replicate] at hx
  rcases hx with (hx | rfl | ⟨-, rfl⟩) | hx
  · exact h x hx
  · decide
  · decide
  · exact beb_lt _ _ x hx
end Go.Proofs.Ytinndlofnpkfhaa.Sha
