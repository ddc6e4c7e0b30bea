/-
  Words for memory: a slice of bytes that reads as a list of numbers.
-/
import Derived.WalkKit
import Derived.WalkSpells
import Derived.Lib.Hide
import Derived.Lib.SlBytesConst
import Derived.OpenShut
import Derived.WalkLawsBesides
namespace Go.Proofs.YtigkjjbdbficnaaDoor
open Go.RowKit

/-- The slice value '.slice A n c' reads, in w, as the bytes l. -/
def RB (w : World) (A : Option Addr) (n : Nat) (l : List Nat) : Prop :=
  l.length = n ∧ (∀ x ∈ l, x < 256) ∧ (0 < n → ∃ ad, A = some ad ∧ ∀ (j x : Nat), l[j]? = some x → w.cell? (ad.add j) = some (.int .u8 (x : Int)))

theorem RB.at_ {w : World} {A : Option Addr} {n : Nat} {l : List Nat} (h : RB w A n l) {k : Nat} (hk : k < n) :
    ∃ ad x, A = some ad ∧ l[k]? = some x ∧ x < 256 ∧ w.cell? (ad.add k) = some (.int .u8 (x : Int)) := by
  obtain ⟨h1, h2, h3⟩ := h
  obtain ⟨ad, e, hc⟩ := h3 (by omega)
  have hl : k < l.length := by omega
  exact ⟨ad, l[k], e, List.getElem?_eq_getElem hl, h2 _ (List.getElem_mem hl), hc k _ (List.getElem?_eq_getElem hl)⟩

/-- A slice of integers that came in. -/
def IsRow (k : IntKind) (w : World) (a : Option Addr) (len cap : Nat) (zs : List Int) : Prop :=
  (a = none ∧ len = 0 ∧ cap = 0 ∧ zs = []) ∨
  ∃ x, a = some x ∧ len ≤ cap ∧ cap ≤ maxLen ∧ zs.length = cap ∧ (∀ i, i < zs.length → w.cell? (x.add i) = some (.int k (zs.getD i 0))) ∧ ∀ n ∈ zs, (Lit.int k n).wf = true

def nats (zs : List Int) : List Nat := zs.map Int.toNat

theorem RB.of_row {w : World} {a : Option Addr} {len cap : Nat} {zs : List Int} (h : IsRow .u8 w a len cap zs) : RB w a len (nats (zs.take len)) := by
  rcases h with ⟨rfl, rfl, rfl, rfl⟩ | ⟨x, rfl, hl, hm, hz, hc, hw⟩
  · exact ⟨by simp [nats], by simp [nats], fun h => absurd h (by omega)⟩
  · refine ⟨by simp [nats]; omega, ?_, fun _ => ⟨x, rfl, ?_⟩⟩
    · intro y hy
      simp only [nats, List.mem_map] at hy
      obtain ⟨z, hz', rfl⟩ := hy
      have := bounds_u8 (hw z (List.mem_of_mem_take hz'))
      omega
    · intro j y hj
      simp only [nats, List.getElem?_map, Option.map_eq_some_iff] at hj
      obtain ⟨z, hz', rfl⟩ := hj
      have hjl : j < len := by
        rcases Nat.lt_or_ge j len with h | h
        · exact h
        · rw [List.getElem?_eq_none (by rw [List.length_take]; omega)] at hz'; cases hz'
      rw [List.getElem?_take_of_lt hjl] at hz'
      have hmem : z ∈ zs := List.mem_of_getElem? hz'
      have hb := bounds_u8 (hw z hmem)
      have := hc j (by omega)
      rw [this]
      have e : zs.getD j 0 = z := by rw [List.getD_eq_getElem?_getD, hz']; rfl
      rw [e]
      congr 2
      omega

/-- A block that was just laid, of bytes. -/
theorem RB.new (w : World) (cs : Array Value) (t : TypeId) (fr : Nat × Nat) (l : List Nat) (h : cs.toList = l.map fun (x : Nat) => Value.int .u8 (x : Int)) (hb : ∀ x ∈ l, x < 256) :
    RB (w.alloc (.cells cs t fr)) (some ⟨w.heap.size, 0, none⟩) l.length l := by
  refine ⟨rfl, hb, fun _ => ⟨_, rfl, fun j x hj => ?_⟩⟩
  have e : cs[j]? = some (.int .u8 (x : Int)) := by
    rw [← Array.getElem?_toList, h, List.getElem?_map, hj]; rfl
  have e2 : (⟨w.heap.size, 0, none⟩ : Addr).add j = ⟨w.heap.size, j, none⟩ := by
    by_cases h0 : j = 0
    · subst h0; rfl
    · simp [Addr.add, h0]
  rw [e2, cell_of_row _ _ _ cs t fr (heap_alloc_new w _), e]

theorem RB.below {w w' : World} {A : Option Addr} {n : Nat} {l : List Nat} (h : RB w A n l) (hb : Below w.heap.size w w') : RB w' A n l := by
  obtain ⟨h1, h2, h3⟩ := h
  refine ⟨h1, h2, fun hn => ?_⟩
  obtain ⟨ad, e, hc⟩ := h3 hn
  exact ⟨ad, e, fun j x hj => cell_later hb (hc j x hj)⟩
end Go.Proofs.YtigkjjbdbficnaaDoor
