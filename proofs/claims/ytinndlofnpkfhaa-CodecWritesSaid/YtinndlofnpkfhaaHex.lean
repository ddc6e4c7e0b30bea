/-
  The walk of sum.Hex.
-/
import Derived.Test.YtinndlofnpkfhaaDig
import Derived.Test.YtinndlofnpkfhaaStr
import Derived.Deep.RegionLaw
namespace Go.Proofs.Ytinndlofnpkfhaa
open Go.RowKit

theorem Sha.digest_len (b : List Nat) : (Sha.digest b).length = 32 := by unfold Sha.digest; rw [word4_len]; rfl
theorem Sha.digest_lt (b : List Nat) : ∀ x ∈ Sha.digest b, x < 256 := by
  intro x hx
  obtain ⟨y, _, hy⟩ := List.mem_flatMap.1 hx
  simp [Sha.word4] at hy
  omega
/-- a digit of base 16 -/
def dig16 (x : Nat) : Nat := ([48, 49, 50, 51, 52, 53, 54, 55, 56, 57, 97, 98, 99, 100, 101, 102] : List Nat).getD x 0
theorem dig16_lt (x : Nat) : dig16 x < 256 := by
  unfold dig16
  match x with
  | 0 | 1 | 2 | 3 | 4 | 5 | 6 | 7 | 8 | 9 | 10 | 11 | 12 | 13 | 14 | 15 => decide
  | x + 16 => show (0 : Nat) < _; decide
/-- the digits of bytes -/
def hex (l : List Nat) : List Nat := l.flatMap fun x => [dig16 (x / 16), dig16 (x % 16)]
theorem hex_lt (l : List Nat) : ∀ x ∈ hex l, x < 256 := by
  intro x hx
  obtain ⟨y, _, hy⟩ := List.mem_flatMap.1 hx
  simp at hy
  rcases hy with rfl | rfl <;> exact dig16_lt _
theorem hex_len (l : List Nat) : (hex l).length = 2 * l.length := by
  induction l with
  | nil => rfl
  | cons x l ih => simp only [hex, List.flatMap_cons, List.length_append, List.length_cons] at *; rw [ih]; simp; omega
theorem hex_snoc (l : List Nat) (x : Nat) : hex (l ++ [x]) = hex l ++ [dig16 (x / 16), dig16 (x % 16)] := by simp [hex]

theorem index58 (cs : Array Value) (i : Nat) (v : Value) (hi : i < 32) (h : cs[i]? = some v) (w : World) : (Instr.index 58 (.agg cs) (.int .i64 (i : Int))).run Try.prog w = .ok v w := by
  obtain ⟨j, hj, -, hz1, -⟩ := info_parts Try.info5
  have hi' : (i : Int) < 32 := by omega
  simp [Instr.index, run_underlying y58, asIntOf, go_sem, part, sizeOf, typeInfo, hj, hz1, h]
  intro h2; omega
theorem index16 (p : Nat) (hp : p < 16) (w : World) : (Instr.index 9 (.string ⟨#[48, 49, 50, 51, 52, 53, 54, 55, 56, 57, 97, 98, 99, 100, 101, 102]⟩) (.int .u8 (p : Int))).run Try.prog w = .ok (.int .u8 (dig16 p : Nat)) w := by
  rw [run_index_string (P := Try.prog) (w := w) 9 _ .u8 _ Try.underlying9]
  have : p = 0 ∨ p = 1 ∨ p = 2 ∨ p = 3 ∨ p = 4 ∨ p = 5 ∨ p = 6 ∨ p = 7 ∨ p = 8 ∨ p = 9 ∨ p = 10 ∨ p = 11 ∨ p = 12 ∨ p = 13 ∨ p = 14 ∨ p = 15 := by omega
  rcases this with rfl | rfl | rfl | rfl | rfl | rfl | rfl | rfl | rfl | rfl | rfl | rfl | rfl | rfl | rfl | rfl <;> rfl

theorem below_appd {B : Nat} {w0 w w' : World} {A : Option Addr} {n c : Nat} {l : List Nat} (hB : Below B w0 w) (hBs : B ≤ w.heap.size) (hO : Own w B A n c l) {o : Obj} (ho : Only (fun k => blk A = some k) (w.alloc o).drew w') : Below B w0 w' :=
  (hB.alloc hBs o).drew.trans (ho.below (by simp; omega) (fun i hi e => by have := (hO.lt i e).1; omega))

set_option maxRecDepth 8000 in
set_option maxHeartbeats 1000000 in
theorem hex_any (d : List Nat) (hd : d.length = 32) (hx : ∀ x ∈ d, x < 256) (w : World) :
    Calls Try.prog 41 #[.agg (mk .u8 d)] w fun e w' => e = .returned (.string (str (hex d))) ∧ Below w.heap.size w w' := by
  go_enter Try.func41, Try.ntmps41
  obtain ⟨w0, hw0, hs0, hB0, hA0⟩ := lay w .u8 58 d
  have HW0 := Lib.hid hw0
  have hsz : w.heap.size ≤ w0.heap.size := by omega
  clear hw0 hs0
  go_wp2_with (first
    | (refine wpList_box_ar rfl 58 _ rfl .u8 d rfl ?_; rw [← HW0.out])
    | (refine wpList_load_ar rfl 58 _ rfl w.heap.size rfl .u8 d hA0 32 5 y58 (by rw [hd]; exact s58) ?_))
  clear HW0 hA0
  go_loopw [7, 3] (fun v v3 wr => ∃ (i : Nat) (A : Option Addr) (n c : Nat), i ≤ 32 ∧ v = .int .i64 (i : Int) ∧ v3 = .slice A n c ∧ n = 2 * i ∧ Own wr w.heap.size A n c (hex (d.take i)) ∧ Below w.heap.size w wr) (fun v _ _ => 32 - (intOf v).toNat)
  case atStart => exact ⟨0, none, 0, 0, by decide, rfl, rfl, rfl, Own.nil _ _, hB0⟩
  case round =>
    clear hB0
    obtain ⟨i, A, n, c, hi, rfl, rfl, hn, hO, hB⟩ := hrel
    by_cases hlt : i < 32
    · have hi32 : (i : Int) < 32 := by omega
      have hget : (mk .u8 d)[i]? = some (.int .u8 ((d.getD i 0 : Nat) : Int)) := by
        rw [mk_get, List.getElem?_eq_getElem (by omega), List.getD_eq_getElem?_getD, List.getElem?_eq_getElem (by omega)]; rfl
      have hxl : d.getD i 0 < 256 := by
        rw [List.getD_eq_getElem?_getD, List.getElem?_eq_getElem (by omega)]; exact hx _ (List.getElem_mem _)
      have hsnoc : hex (d.take (i + 1)) = hex (d.take i) ++ [dig16 (d.getD i 0 / 16), dig16 (d.getD i 0 % 16)] := by
        rw [← hex_snoc, List.take_add_one, List.getElem?_eq_getElem (by omega), List.getD_eq_getElem?_getD, List.getElem?_eq_getElem (by omega)]; rfl
      generalize d.getD i 0 = x at *
      have hix := index58 (mk .u8 d) i _ hlt hget
      have HS := Lib.hid hsnoc
      have HO := Lib.hid hO
      have HB := Lib.hid hB
      have HX := Lib.hid hx
      have HD := Lib.hid hd
      have hnb : n ≤ 62 := by omega
      have HN := Lib.hid hn
      clear hget hsnoc hO hB hx hd hn
      obtain ⟨p, hp⟩ : ∃ p, p = x / 16 := ⟨_, rfl⟩
      obtain ⟨q, hq⟩ : ∃ q, q = x % 16 := ⟨_, rfl⟩
      have hp1 : (x : Int) / 16 = (p : Int) := by omega
      have hq1 : bits .and .u8 (x : Int) 15 = (q : Int) := by
        have := u8_and_nat x 15 hxl (by decide)
        rw [hq, show x % 16 = x &&& 15 from (Nat.and_two_pow_sub_one_eq_mod x 4).symm]; exact this
      have hi1 := index16 p (by omega)
      have hi2 := index16 q (by omega)
      have ly1 := dig16_lt p
      have ly2 := dig16_lt q
      rw [← hp, ← hq] at HS
      generalize dig16 p = y1 at *
      generalize dig16 q = y2 at *
      clear hp hq
      go_wp2
      have hown := HO.out
      have hwsz := HB.out.size
      go_region_law (refine step_append_rb rfl _ _ rfl rfl rfl (hown.alloc _) (RB.new wr _ 5 _ [y1, y2] rfl (by simp; omega)) (by omega) (by simp; omega) ?_; intro A2 c2 w2 hown2 hon2 hbk2)
      all_goals
        have hB2 := Lib.hid (below_appd HB.out hwsz hown hon2)
        have HO2 := Lib.hid hown2
        clear hown2 hon2 hbk2 hown
        go_wp2
        go_roundw
        case rel => exact ⟨i + 1, A2, n + 2, c2, hlt, by go_num, rfl, by have := HN.out; omega, by rw [HS.out]; exact HO2.out, hB2.out⟩
        case measure => simp [intOf]; omega
    · obtain rfl : i = 32 := by omega
      have ht : d.take 32 = d := List.take_of_length_le (by omega)
      rw [ht] at hO
      have kcv := conv_rb hO.read c
      have HB := Lib.hid hB
      clear hO hB ht hn
      go_wp2
      go_ret
      exact ⟨rfl, HB.out⟩
end Go.Proofs.Ytinndlofnpkfhaa
