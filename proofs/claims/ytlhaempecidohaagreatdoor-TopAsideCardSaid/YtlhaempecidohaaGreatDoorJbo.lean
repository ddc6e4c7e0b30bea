/-
  slices.SortFunc of places: a row that is sorted stays as it is.
-/
import Derived.Shelf.SlSortCmp.WholeK
import Derived.Shelf.SlLaysF0
import Derived.Ground.SlsfProg
import Derived.Test.YtlhaempecidohaaGreatDoorJbn
set_option linter.unusedSimpArgs false
set_option linter.unusedVariables false
namespace Go.Proofs
open Go.Shelf
def Tryz.laySortP_ren : Go.Shelf.Ren := ⟨fun | 6 => 123 | 15 => 186 | 14 => 187 | 28 => 241 | 29 => 242 | 20 => 243 | 21 => 244 | 22 => 245 | 23 => 246 | 24 => 247 | 25 => 248 | 26 => 249 | 27 => 250 | 46 => 300 | 47 => 295 | 48 => 296 | 49 => 301 | 50 => 302 | 57 => 344 | n => n, fun | 22 => 108 | 24 => 113 | 25 => 210 | 3 => 3 | 39 => 271 | 0 => 0 | 53 => 35 | 55 => 281 | 4 => 4 | 46 => 317 | 45 => 316 | 50 => 140 | 5 => 5 | 9 => 9 | 66 => 372 | 70 => 376 | 76 => 413 | 77 => 414 | n => n, fun | n => n⟩
theorem Tryz.laySortP : Go.Proofs.SlLaysF0.n6 Tryz.prog Tryz.laySortP_ren := {
  mixed := by kernel_rfl
  f6 := ⟨Tryz.f123.name, by decide, Tryz.func123.trans (congrArg some (by kernel_rfl))⟩
  f14 := ⟨Tryz.f187.name, by decide, Tryz.func187.trans (congrArg some (by kernel_rfl))⟩
  f15 := Tryz.func186.trans (congrArg some (by kernel_rfl))
  f20 := ⟨Tryz.f243.name, by decide, Tryz.func243.trans (congrArg some (by kernel_rfl))⟩
  f21 := ⟨Tryz.f244.name, by decide, Tryz.func244.trans (congrArg some (by kernel_rfl))⟩
  f22 := ⟨Tryz.f245.name, by decide, Tryz.func245.trans (congrArg some (by kernel_rfl))⟩
  f23 := ⟨Tryz.f246.name, by decide, Tryz.func246.trans (congrArg some (by kernel_rfl))⟩
  f24 := ⟨Tryz.f247.name, by decide, Tryz.func247.trans (congrArg some (by kernel_rfl))⟩
  f25 := ⟨Tryz.f248.name, by decide, Tryz.func248.trans (congrArg some (by kernel_rfl))⟩
  f26 := ⟨Tryz.f249.name, by decide, Tryz.func249.trans (congrArg some (by kernel_rfl))⟩
  f27 := ⟨Tryz.f250.name, by decide, Tryz.func250.trans (congrArg some (by kernel_rfl))⟩
  f28 := Tryz.func241.trans (congrArg some (by kernel_rfl))
  f29 := Tryz.func242.trans (congrArg some (by kernel_rfl))
  f46 := ⟨Tryz.f300.name, by decide, Tryz.func300.trans (congrArg some (by kernel_rfl))⟩
  f47 := Tryz.func295.trans (congrArg some (by kernel_rfl))
  f48 := Tryz.func296.trans (congrArg some (by kernel_rfl))
  f49 := ⟨Tryz.f301.name, by decide, Tryz.func301.trans (congrArg some (by kernel_rfl))⟩
  f50 := ⟨Tryz.f302.name, by decide, Tryz.func302.trans (congrArg some (by kernel_rfl))⟩
  f57 := ⟨Tryz.f344.name, by decide, Tryz.func344.trans (congrArg some (by kernel_rfl))⟩
  t0 := Tryz.underlying0
  a0 := Tryz.isAgg0
  z0 := Tryz.sizeOf0
  v0 := Tryz.zeroValue0
  t3 := Tryz.underlying3
  a3 := Tryz.isAgg3
  z3 := Tryz.sizeOf3
  v3 := Tryz.zeroValue3
  t4 := Tryz.underlying4
  a4 := Tryz.isAgg4
  z4 := Tryz.sizeOf4
  v4 := Tryz.zeroValue4
  t5 := Tryz.underlying5
  a5 := Tryz.isAgg5
  z5 := Tryz.sizeOf5
  v5 := Tryz.zeroValue5
  t9 := Tryz.underlying9
  a9 := Tryz.isAgg9
  z9 := Tryz.sizeOf9
  v9 := Tryz.zeroValue9
  t22 := Tryz.underlying108
  a22 := Tryz.isAgg108
  z22 := Tryz.sizeOf108
  v22 := Tryz.zeroValue108
  t25 := Tryz.underlying210
  a25 := Tryz.isAgg210
  z25 := Tryz.sizeOf210
  v25 := Tryz.zeroValue210
  t39 := Tryz.underlying271
  a39 := Tryz.isAgg271
  z39 := Tryz.sizeOf271
  v39 := Tryz.zeroValue271
  t45 := Tryz.underlying316
  a45 := Tryz.isAgg316
  z45 := Tryz.sizeOf316
  v45 := Tryz.zeroValue316
  t46 := Tryz.underlying317
  a46 := Tryz.isAgg317
  z46 := Tryz.sizeOf317
  v46 := Tryz.zeroValue317
  t50 := Tryz.underlying140
  a50 := Tryz.isAgg140
  z50 := Tryz.sizeOf140
  v50 := Tryz.zeroValue140
  t53 := Tryz.underlying35
  a53 := Tryz.isAgg35
  z53 := Tryz.sizeOf35
  v53 := Tryz.zeroValue35
  t55 := Tryz.underlying281
  a55 := Tryz.isAgg281
  z55 := Tryz.sizeOf281
  v55 := Tryz.zeroValue281
  t66 := Tryz.underlying372
  a66 := Tryz.isAgg372
  z66 := Tryz.sizeOf372
  v66 := Tryz.zeroValue372
  t70 := Tryz.underlying376
  a70 := Tryz.isAgg376
  z70 := Tryz.sizeOf376
  v70 := Tryz.zeroValue376
  t76 := Tryz.underlying413
  a76 := Tryz.isAgg413
  z76 := Tryz.sizeOf413
  v76 := Tryz.zeroValue413
  t77 := Tryz.underlying414
  a77 := Tryz.isAgg414
  z77 := Tryz.sizeOf414
  v77 := Tryz.zeroValue414 }
end Go.Proofs
namespace Go.Proofs.YtlhaempecidohaaGreatDoor
open Go.RowKit Go.Sort
/-- a place's cells, its number cut to what a number can be -/
def encP (p : PlaceS) : List Value := [.int .i64 ((p.1 % 1024 : Nat) : Int), .string p.2]
def numP (x y : PlaceS) : Int := ((x.1 % 1024 : Nat) : Int) - ((y.1 % 1024 : Nat) : Int)
theorem encP_eq {p : PlaceS} (h : p.1 < 1024) : encP p = placeV p := by
  unfold encP placeV
  rw [Nat.mod_eq_of_lt h]
theorem sortClo (x y : PlaceS) (W : World) : Calls Tryz.prog 124 #[.agg (encP x).toArray, .agg (encP y).toArray] W fun e w' => e = .returned (.int .i64 (numP x y)) ∧ ∃ q os', w' = grow (W.drewN q) os' := by
  unfold encP numP
  obtain ⟨a, ha⟩ : ∃ a, x.1 % 1024 = a := ⟨_, rfl⟩
  obtain ⟨b, hb⟩ : ∃ b, y.1 % 1024 = b := ⟨_, rfl⟩
  have ha' : a < 1024 := by rw [← ha]; exact Nat.mod_lt _ (by omega)
  have hb' : b < 1024 := by rw [← hb]; exact Nat.mod_lt _ (by omega)
  rw [ha, hb]
  clear ha hb
  go_enter Tryz.func124, Tryz.ntmps124
  go_wp2_with fail
  go_ret
  exact ⟨rfl, 0, _, by rw [alloc_eq_grow, alloc_eq_grow, grow_grow]; rfl⟩
theorem swoP : SWO (ltOf numP) where
  irrefl x := by unfold ltOf numP; simp
  trans x y z h1 h2 := by unfold ltOf numP at *; simp only [decide_eq_true_eq] at *; omega
  ntrans x y z h1 h2 := by unfold ltOf numP at *; simp only [decide_eq_false_iff_not] at *; omega
theorem isAgg113 (w : World) : (isAgg 113).run Tryz.prog w = .ok true w := by kernel_rfl
theorem sizeOf113 (w : World) : (Go.sizeOf 113).run Tryz.prog w = .ok 2 w := by kernel_rfl
theorem pair_uniq {l : List PlaceS} (h : l.Pairwise fun a b => a.1 < b.1) {a b : PlaceS} (ha : a ∈ l) (hb : b ∈ l) (e : a.1 = b.1) : a = b := by
  induction l with
  | nil => cases ha
  | cons x r ih =>
    rw [List.pairwise_cons] at h
    rcases List.mem_cons.1 ha with h1 | h1
    · rcases List.mem_cons.1 hb with h2 | h2
      · rw [h1, h2]
      · have := h.1 b h2; rw [← h1] at this; omega
    · rcases List.mem_cons.1 hb with h2 | h2
      · have := h.1 a h1; rw [← h2] at this; omega
      · exact ih h.2 h1 h2
theorem psort_any {w : World} {base : Nat} {A : Option Addr} {n c : Nat} (l : List PlaceS) (h : RowO w base 113 2 A n c (l.map placeV)) (hlt : ∀ p ∈ l, p.1 < 1024) (hup : l.Pairwise fun a b => a.1 < b.1) (h0 : 0 < n) (hn : n ≤ 1000000) :
    Calls Tryz.prog 123 #[.slice A n c, .func (.func 124) #[] #[]] w fun e w' => e = .returned (.tuple #[]) ∧ Below w.heap.size w w' := by
  obtain ⟨g, rfl⟩ := h.form h0
  have hln : l.length = n := by have := h.len; rwa [List.length_map] at this
  have hH : HoldsK encP 2 w g 0 l.toArray := by
    intro j hj
    rw [size_flatK] at hj
    refine ⟨?_, by rw [Nat.zero_add]; exact h.frozen j⟩
    rw [get_flatK _ _ _ _ hj, Nat.zero_add]
    have hj2 : j / 2 < l.length := by rw [List.size_toArray] at hj; omega
    have hp : l[j / 2]? = some l[j / 2] := List.getElem?_eq_getElem hj2
    have e1 : l.toArray[j / 2]! = l[j / 2] := by rw [getElem!_pos _ _ (by rw [List.size_toArray]; exact hj2)]; rfl
    have hr := h.range (i := j / 2) (v := placeV l[j / 2]) (by rw [List.getElem?_map, hp]; rfl)
    rw [e1, encP_eq (hlt _ (List.getElem_mem hj2))]
    have h2 : (placeV l[j / 2])[j % 2]? = some ((placeV l[j / 2])[j % 2]!) := by
      have h3 : j % 2 < (placeV l[j / 2]).length := by show j % 2 < 2; omega
      rw [List.getElem?_eq_getElem h3, getElem!_pos (placeV l[j / 2]) (j % 2) h3]
    have := hr _ _ h2
    rwa [show j / 2 * 2 + j % 2 = j by omega] at this
  have hcon := AnyQ.slices_SortFunc Tryz.laySortP 2 isAgg113 sizeOf113 encP (fun _ => rfl) (fun x v hv => by simp [encP] at hv; rcases hv with rfl | rfl <;> rfl) numP swoP 124 #[] g 0 c l.toArray w
    (enters_of Tryz.func124 (by kernel_rfl) rfl) (fun _ _ _ _ x y => sortClo x y _) hH (h.lt g rfl).2 (by rw [List.size_toArray, hln]; omega)
  rw [List.size_toArray, hln] at hcon
  change Calls Tryz.prog 123 _ _ _ at hcon
  refine hcon.mono ?_
  rintro e w' ⟨rfl, d', q, os, hp, hs, rfl⟩
  refine ⟨rfl, ?_⟩
  have hsz : d'.size = n := by
    have h1 : d'.size = l.toArray.size := hp.1
    have h2 : l.toArray.size = l.length := rfl
    omega
  have hperm : d'.toList.Perm l := by
    have h3 := hp.2.2
    rw [← hln] at hsz h3
    have e1 : d'.extract 0 l.length = d' := by rw [← hsz]; simp
    have e2 : l.toArray.extract 0 l.length = l.toArray := by
      have : l.length = l.toArray.size := by simp
      rw [this]; simp
    rw [e1, e2] at h3
    exact h3
  have hd : d' = l.toArray := by
    have hpw : d'.toList.Pairwise fun a b => a.1 % 1024 ≤ b.1 % 1024 := by
      rw [List.pairwise_iff_getElem]
      intro i j hi hj hij
      have h1 := hs i j (Nat.zero_le _) hij (by rw [← hsz]; simpa using hj)
      have hi' : i < d'.size := by simpa using hi
      have hj' : j < d'.size := by simpa using hj
      rw [getElem!_pos d' j hj', getElem!_pos d' i hi'] at h1
      unfold ltOf numP at h1
      simp only [decide_eq_false_iff_not] at h1
      simp only [Array.getElem_toList]
      omega
    have hpl : l.Pairwise fun a b => a.1 % 1024 ≤ b.1 % 1024 := by
      refine hup.imp_of_mem (fun {a b} ha hb hab => ?_)
      rw [Nat.mod_eq_of_lt (hlt a ha), Nat.mod_eq_of_lt (hlt b hb)]
      omega
    have := List.Perm.eq_of_pairwise (le := fun a b : PlaceS => a.1 % 1024 ≤ b.1 % 1024) (fun a b ha hb h1 h2 => pair_uniq hup (hperm.mem_iff.1 ha) hb (by
      have e1 := hlt a (hperm.mem_iff.1 ha)
      have e2 := hlt b hb
      rw [Nat.mod_eq_of_lt e1, Nat.mod_eq_of_lt e2] at h1 h2
      omega)) hpw hpl hperm
    exact Array.toList_inj.1 (by rw [this])
  subst hd
  unfold sortWorldK
  rw [putRowK_self encP 2 (Sort.ahead w q) g 0 l.toArray hH]
  exact Lib.below_grow w.heap.size w (Nat.le_refl _) q os
end Go.Proofs.YtlhaempecidohaaGreatDoor
