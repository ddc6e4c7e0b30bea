/-
  An array of bytes is equal to itself; texts of lists of bytes, joined and cut.
-/
import Derived.Test.YtinndlofnpkfhaaArr
import Derived.Test.YtinndlofnpkfhaaHex
import Derived.ChangeKeysEq
namespace Go.Proofs.Ytinndlofnpkfhaa
open Go.RowKit

theorem part_mk (l : List Nat) (i : Nat) (hi : i < l.length) (w : World) : (part 5 (mk .u8 l) (i * 1)).run Try.prog w = .ok (.int .u8 ((l.getD i 0 : Nat) : Int)) w := by
  obtain ⟨j, hj, -, hz1, -⟩ := info_parts Try.info5
  have hg : (mk .u8 l)[i]? = some (.int .u8 ((l.getD i 0 : Nat) : Int)) := by
    rw [mk_get, List.getElem?_eq_getElem hi, List.getD_eq_getElem?_getD, List.getElem?_eq_getElem hi]; rfl
  rw [Nat.mul_one]
  simp [part, go_sem, hg]

theorem items_same (l : List Nat) (d : Nat) (w : World) : ∀ is : List Nat, (∀ i ∈ is, i < l.length) → (Op.eqItems (d + 1) 5 1 (mk .u8 l) (mk .u8 l) is).run Try.prog w = .ok true w
  | [], _ => by simp [Op.eqItems]
  | i :: is, h => by
    have hp := part_mk l i (h i (by simp)) w
    simp only [Op.eqItems, Sem.run_bind, hp, Result.andThen_ok, run_equalIn_int (P := Try.prog) w d 5 .u8 .u8 _ _ Try.underlying5]
    simpa using items_same l d w is (fun j hj => h j (by simp [hj]))

theorem eql58 (l : List Nat) (hl : l.length = 32) (w : World) : (binOp .eql 58 (.agg (mk .u8 l)) (.agg (mk .u8 l))).run Try.prog w = .ok (.bool true) w := by
  obtain ⟨j, hj, -, hz1, -⟩ := info_parts Try.info5
  rw [run_eql_struct]
  have := run_equalIn_array (P := Try.prog) (w := w) 9999 (mk .u8 l) (mk .u8 l) y58 hj
  rw [this, show Try.prog.cellsOf 5 = 1 from by kernel_rfl, items_same l 9998 w (List.range 32) (fun i hi => by rw [hl]; exact List.mem_range.1 hi)]
  rfl

theorem str_append (a b : List Nat) : str a ++ str b = str (a ++ b) := by
  apply ByteArray.ext
  rw [ByteArray.data_append]
  show (a.map UInt8.ofNat).toArray ++ (b.map UInt8.ofNat).toArray = ((a ++ b).map UInt8.ofNat).toArray
  simp

theorem cut16 (p : Nat) (hp : p < 16) (w : World) : (Instr.slice 9 (.string ⟨#[48, 49, 50, 51, 52, 53, 54, 55, 56, 57, 97, 98, 99, 100, 101, 102]⟩) (some (.int .u8 (p : Int))) (some (.int .u8 ((p : Int) + 1))) none).run Try.prog w = .ok (.string (str [dig16 p])) w := by
  have : p = 0 ∨ p = 1 ∨ p = 2 ∨ p = 3 ∨ p = 4 ∨ p = 5 ∨ p = 6 ∨ p = 7 ∨ p = 8 ∨ p = 9 ∨ p = 10 ∨ p = 11 ∨ p = 12 ∨ p = 13 ∨ p = 14 ∨ p = 15 := by omega
  have u := run_underlying (P := Try.prog) Try.underlying9 w
  rcases this with rfl | rfl | rfl | rfl | rfl | rfl | rfl | rfl | rfl | rfl | rfl | rfl | rfl | rfl | rfl | rfl <;> (unfold Instr.slice; rw [Sem.run_bind, u]; rfl)
end Go.Proofs.Ytinndlofnpkfhaa
