/-
  Plain law: a number's bytes, the greatest first.
-/
import Derived.Test.YtinndlofnpkfhaaNum
namespace Go.Proofs.Ytinndlofnpkfhaa

def bebTo (v n j : Nat) : List Nat := (List.range j).map fun t => v / 256 ^ (n - 1 - t) % 256
def beb (v n : Nat) : List Nat := bebTo v n n
theorem bebTo_succ (v n j : Nat) : bebTo v n (j + 1) = bebTo v n j ++ [v / 256 ^ (n - 1 - j) % 256] := by simp [bebTo, List.range_succ]
theorem bebTo_length (v n j : Nat) : (bebTo v n j).length = j := by simp [bebTo]
theorem beb_length (v n : Nat) : (beb v n).length = n := bebTo_length v n n
theorem beb_lt (v n : Nat) : ∀ x ∈ beb v n, x < 256 := by
  intro x hx
  simp only [beb, bebTo, List.mem_map] at hx
  obtain ⟨t, _, rfl⟩ := hx
  exact Nat.mod_lt _ (by decide)
/-- With one byte more ahead. -/
theorem bebTo_cons (v n : Nat) : beb v (n + 1) = (v / 256 ^ n % 256) :: beb v n := by
  unfold beb bebTo
  rw [List.range_succ_eq_map, List.map_cons, List.map_map]
  congr 1
  · apply List.map_congr_left
    intro t ht
    simp only [Function.comp, Nat.succ_eq_add_one]
    congr 3
    omega
theorem num_cons (x : Nat) (l : List Nat) : num (x :: l) = x * 256 ^ l.length + num l := by
  have H : ∀ (l : List Nat) (v : Nat), l.foldl (fun v c => v * 256 + c) v = v * 256 ^ l.length + l.foldl (fun v c => v * 256 + c) 0 := by
    intro l
    induction l with
    | nil => intro v; simp
    | cons y l ih =>
      intro v
      simp only [List.foldl_cons, List.length_cons]
      rw [ih (v * 256 + y), ih (0 * 256 + y), Nat.pow_succ, Nat.add_mul, Nat.zero_mul, Nat.zero_add]
      have e : v * 256 * 256 ^ l.length = v * (256 ^ l.length * 256) := by rw [Nat.mul_assoc, Nat.mul_comm 256]
      rw [e]
      omega
  have := H l x
  simpa [num] using this
theorem num_beb (n v : Nat) (h : v < 256 ^ n) : num (beb v n) = v := by
  have key : ∀ n, num (beb v n) = v % 256 ^ n := by
    intro n
    induction n with
    | zero => simp [beb, bebTo, num, Nat.mod_one]
    | succ n ih =>
      rw [bebTo_cons, num_cons, beb_length, ih]
      rw [Nat.pow_succ, Nat.mod_mul, Nat.mul_comm, Nat.add_comm]
  rw [key, Nat.mod_eq_of_lt h]
end Go.Proofs.Ytinndlofnpkfhaa
