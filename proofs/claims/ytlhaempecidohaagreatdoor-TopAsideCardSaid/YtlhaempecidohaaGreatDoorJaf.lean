/-
  Contracts of maps.Keys and slices.Sorted at this translation, laid by the kit (its plain mode, lay-iter's print).
-/
import Derived.Shelf.SlIter.Nil
import Derived.Shelf.SortM.Plain
import Derived.Shelf.SortM.SortNone
import Derived.Shelf.SlGeneric
import Derived.Ground.GgzProg
import Derived.Ground.SlgmProg
import Derived.Test.YtlhaempecidohaaGreatDoorProg
set_option linter.unusedSimpArgs false
set_option linter.unusedVariables false
namespace Go.Proofs
open Go.Shelf
def Tryz.keys112_ren : Go.Shelf.Ren := ⟨fun | 7 => 112 | 10 => 178 | n => n, fun | 23 => 76 | 26 => 9 | 3 => 75 | 28 => 193 | 0 => 0 | 27 => 192 | 33 => 80 | 4 => 4 | n => n, fun | n => n⟩
theorem Tryz.keys112 : Go.Proofs.SlLaysZ.n7 Tryz.prog Tryz.keys112_ren := {
  mixed := by kernel_rfl
  f7 := ⟨Tryz.f112.name, by decide, Tryz.func112.trans (congrArg some (by kernel_rfl))⟩
  f10 := ⟨Tryz.f178.name, by decide, Tryz.func178.trans (congrArg some (by kernel_rfl))⟩
  t0 := Tryz.underlying0
  a0 := Tryz.isAgg0
  z0 := Tryz.sizeOf0
  v0 := Tryz.zeroValue0
  t4 := Tryz.underlying4
  a4 := Tryz.isAgg4
  z4 := Tryz.sizeOf4
  v4 := Tryz.zeroValue4
  t23 := Tryz.underlying76
  a23 := Tryz.isAgg76
  z23 := Tryz.sizeOf76
  v23 := Tryz.zeroValue76
  t26 := Tryz.underlying9
  a26 := Tryz.isAgg9
  z26 := Tryz.sizeOf9
  v26 := Tryz.zeroValue9
  t27 := Tryz.underlying192
  a27 := Tryz.isAgg192
  z27 := Tryz.sizeOf192
  v27 := Tryz.zeroValue192
  t28 := Tryz.underlying193
  a28 := Tryz.isAgg193
  z28 := Tryz.sizeOf193
  v28 := Tryz.zeroValue193
  t33 := Tryz.underlying80
  a33 := Tryz.isAgg80
  z33 := Tryz.sizeOf80
  v33 := Tryz.zeroValue80 }
def Tryz.sorted111_ren : Go.Shelf.Ren := ⟨fun | 6 => 111 | 8 => 176 | 9 => 177 | 11 => 223 | 13 => 186 | 12 => 224 | 23 => 241 | 24 => 242 | 14 => 281 | 15 => 282 | 16 => 283 | 17 => 284 | 18 => 285 | 19 => 286 | 20 => 287 | 21 => 288 | 22 => 289 | 25 => 337 | 26 => 295 | 27 => 296 | 28 => 338 | 29 => 339 | 30 => 340 | 31 => 379 | n => n, fun | 26 => 9 | 28 => 193 | 24 => 106 | 0 => 0 | 3 => 3 | 37 => 271 | 48 => 35 | 50 => 281 | 4 => 4 | 40 => 317 | 39 => 316 | 45 => 140 | 5 => 5 | 9 => 9 | 51 => 372 | 55 => 376 | 57 => 413 | 58 => 414 | 33 => 80 | n => n, fun | n => n⟩
theorem Tryz.sorted111 : Go.Proofs.SlLaysZ.n6 Tryz.prog Tryz.sorted111_ren := {
  mixed := by kernel_rfl
  f6 := ⟨Tryz.f111.name, by decide, Tryz.func111.trans (congrArg some (by kernel_rfl))⟩
  f8 := ⟨Tryz.f176.name, by decide, Tryz.func176.trans (congrArg some (by kernel_rfl))⟩
  f11 := ⟨Tryz.f223.name, by decide, Tryz.func223.trans (congrArg some (by kernel_rfl))⟩
  t0 := Tryz.underlying0
  a0 := Tryz.isAgg0
  z0 := Tryz.sizeOf0
  v0 := Tryz.zeroValue0
  t24 := Tryz.underlying106
  a24 := Tryz.isAgg106
  z24 := Tryz.sizeOf106
  v24 := Tryz.zeroValue106
  t26 := Tryz.underlying9
  a26 := Tryz.isAgg9
  z26 := Tryz.sizeOf9
  v26 := Tryz.zeroValue9
  t28 := Tryz.underlying193
  a28 := Tryz.isAgg193
  z28 := Tryz.sizeOf193
  v28 := Tryz.zeroValue193
  i26 := by kernel_rfl }
def Tryz.sort177_ren : Go.Shelf.Ren := ⟨fun | 6 => 177 | 8 => 186 | 9 => 224 | 19 => 241 | 20 => 242 | 21 => 281 | 22 => 282 | 23 => 283 | 24 => 284 | 25 => 285 | 26 => 286 | 27 => 287 | 28 => 288 | 29 => 289 | 36 => 337 | 31 => 295 | 32 => 296 | 37 => 338 | 38 => 339 | 39 => 340 | 41 => 379 | n => n, fun | 27 => 106 | 29 => 9 | 3 => 3 | 32 => 271 | 26 => 106 | 0 => 0 | 44 => 35 | 46 => 281 | 4 => 4 | 36 => 317 | 35 => 316 | 41 => 140 | 5 => 5 | 9 => 9 | 53 => 372 | 57 => 376 | 63 => 413 | 64 => 414 | n => n, fun | n => n⟩
theorem Tryz.sort177 : Go.Proofs.SlLaysM.n6 Tryz.prog Tryz.sort177_ren := {
  mixed := by kernel_rfl
  f6 := ⟨Tryz.f177.name, by decide, Tryz.func177.trans (congrArg some (by kernel_rfl))⟩
  f8 := Tryz.func186.trans (congrArg some (by kernel_rfl))
  f9 := ⟨Tryz.f224.name, by decide, Tryz.func224.trans (congrArg some (by kernel_rfl))⟩
  f19 := Tryz.func241.trans (congrArg some (by kernel_rfl))
  f20 := Tryz.func242.trans (congrArg some (by kernel_rfl))
  f21 := ⟨Tryz.f281.name, by decide, Tryz.func281.trans (congrArg some (by kernel_rfl))⟩
  f22 := ⟨Tryz.f282.name, by decide, Tryz.func282.trans (congrArg some (by kernel_rfl))⟩
  f23 := ⟨Tryz.f283.name, by decide, Tryz.func283.trans (congrArg some (by kernel_rfl))⟩
  f24 := ⟨Tryz.f284.name, by decide, Tryz.func284.trans (congrArg some (by kernel_rfl))⟩
  f25 := ⟨Tryz.f285.name, by decide, Tryz.func285.trans (congrArg some (by kernel_rfl))⟩
  f26 := ⟨Tryz.f286.name, by decide, Tryz.func286.trans (congrArg some (by kernel_rfl))⟩
  f27 := ⟨Tryz.f287.name, by decide, Tryz.func287.trans (congrArg some (by kernel_rfl))⟩
  f28 := ⟨Tryz.f288.name, by decide, Tryz.func288.trans (congrArg some (by kernel_rfl))⟩
  f29 := ⟨Tryz.f289.name, by decide, Tryz.func289.trans (congrArg some (by kernel_rfl))⟩
  f31 := Tryz.func295.trans (congrArg some (by kernel_rfl))
  f32 := Tryz.func296.trans (congrArg some (by kernel_rfl))
  f36 := ⟨Tryz.f337.name, by decide, Tryz.func337.trans (congrArg some (by kernel_rfl))⟩
  f37 := ⟨Tryz.f338.name, by decide, Tryz.func338.trans (congrArg some (by kernel_rfl))⟩
  f38 := ⟨Tryz.f339.name, by decide, Tryz.func339.trans (congrArg some (by kernel_rfl))⟩
  f39 := ⟨Tryz.f340.name, by decide, Tryz.func340.trans (congrArg some (by kernel_rfl))⟩
  f41 := ⟨Tryz.f379.name, by decide, Tryz.func379.trans (congrArg some (by kernel_rfl))⟩
  t0 := Tryz.underlying0
  a0 := Tryz.isAgg0
  z0 := Tryz.sizeOf0
  v0 := Tryz.zeroValue0
  t3 := Tryz.underlying3
  a3 := Tryz.isAgg3
  z3 := Tryz.sizeOf3
  v3 := Tryz.zeroValue3
  t4 := Tryz.underlying4
  a4 := Tryz.isAgg4
  z4 := Tryz.sizeOf4
  v4 := Tryz.zeroValue4
  t5 := Tryz.underlying5
  a5 := Tryz.isAgg5
  z5 := Tryz.sizeOf5
  v5 := Tryz.zeroValue5
  t9 := Tryz.underlying9
  a9 := Tryz.isAgg9
  z9 := Tryz.sizeOf9
  v9 := Tryz.zeroValue9
  t26 := Tryz.underlying106
  a26 := Tryz.isAgg106
  z26 := Tryz.sizeOf106
  v26 := Tryz.zeroValue106
  t27 := Tryz.underlying106
  a27 := Tryz.isAgg106
  z27 := Tryz.sizeOf106
  v27 := Tryz.zeroValue106
  t29 := Tryz.underlying9
  a29 := Tryz.isAgg9
  z29 := Tryz.sizeOf9
  v29 := Tryz.zeroValue9
  t32 := Tryz.underlying271
  a32 := Tryz.isAgg271
  z32 := Tryz.sizeOf271
  v32 := Tryz.zeroValue271
  t35 := Tryz.underlying316
  a35 := Tryz.isAgg316
  z35 := Tryz.sizeOf316
  v35 := Tryz.zeroValue316
  t36 := Tryz.underlying317
  a36 := Tryz.isAgg317
  z36 := Tryz.sizeOf317
  v36 := Tryz.zeroValue317
  t41 := Tryz.underlying140
  a41 := Tryz.isAgg140
  z41 := Tryz.sizeOf140
  v41 := Tryz.zeroValue140
  t44 := Tryz.underlying35
  a44 := Tryz.isAgg35
  z44 := Tryz.sizeOf35
  v44 := Tryz.zeroValue35
  t46 := Tryz.underlying281
  a46 := Tryz.isAgg281
  z46 := Tryz.sizeOf281
  v46 := Tryz.zeroValue281
  t53 := Tryz.underlying372
  a53 := Tryz.isAgg372
  z53 := Tryz.sizeOf372
  v53 := Tryz.zeroValue372
  t57 := Tryz.underlying376
  a57 := Tryz.isAgg376
  z57 := Tryz.sizeOf376
  v57 := Tryz.zeroValue376
  t63 := Tryz.underlying413
  a63 := Tryz.isAgg413
  z63 := Tryz.sizeOf413
  v63 := Tryz.zeroValue413
  t64 := Tryz.underlying414
  a64 := Tryz.isAgg414
  z64 := Tryz.sizeOf414
  v64 := Tryz.zeroValue414 }
open Go.RowKit Go.Maps Go.Sort Go.Shelf
/-- slices.Sort's two contracts at this dump, at the fence that asks nothing. -/
theorem Tryz.sorts111 (m : Nat) : AnyZ.SortsIn Tryz.prog Tryz.sorted111_ren Fence.wide m :=
  ⟨fun blk off cap ss W hH hblk hsz => callsIn_wide.2 (AnyM.slices_Sort_string Tryz.sort177 blk off cap ss W hH hblk hsz),
   fun p cap W => callsIn_wide.2 (AnyM.slices_Sort_string_none Tryz.sort177 p cap W)⟩
/-- **maps.Keys[map[string]cubby/disk.file,string,cubby/disk.file], at whatever map, the nil one too:** a function value over ONE NEW BLOCK, which holds the map. -/
theorem Tryz.maps_Keys_112 (mb : Option Nat) (W : World) : CallsIn Fence.wide 5 Tryz.prog 112 #[.map mb] W fun e w' => e = .returned (.func (.func 178) #[] #[.pointer (some ⟨W.heap.size, 0, none⟩)]) ∧ w' = W.alloc (.cells #[.map mb] 76) :=
  AnyZ.keys_in Tryz.keys112 Fence.wide 5 trivial rfl mb W
set_option maxHeartbeats 1000000 in
/-- **slices.Sorted[string] AT WHAT maps.Keys[map[string]cubby/disk.file,string,cubby/disk.file] HANDED BACK FOR A MAP THAT IS NOT nil** ('w': the world AHEAD of maps.Keys' call): A NEW SLICE THAT HOLDS THE MAP's KEYS, SORTED; nil just where it has none; nothing that lay before has turned. -/
theorem Tryz.slices_Sorted_keys_111_112 {H : Type} (b nn : Nat) (D0 : DataW H) (R : Value → Option (DataW H × List MemPlace)) (w : World) (hown : w.ownsMap Tryz.prog 9 R b nn D0) (hmax : Maps.size D0 ≤ maxLen) (hbytes : Maps.size D0 * 16 ≤ 140737488355328) :
    CallsIn Fence.wide 5 Tryz.prog 111 #[.func (.func 178) #[] #[.pointer (some ⟨w.heap.size, 0, none⟩)]] (w.alloc (.cells #[.map (some b)] 76)) fun e w' => ∃ (v : Value) (ss : List (List UInt8)), e = .returned v ∧ ss.Perm (strKeys D0) ∧
      w'.ownsRow (w.alloc (.cells #[.map (some b)] 76)).heap.size 9 1 v ss.length ((ss.mergeSort (fun x y => decide (x ≤ y))).map encStr) ∧ (v = .slice none 0 0 ↔ ss = []) ∧ Below (w.alloc (.cells #[.map (some b)] 76)).heap.size (w.alloc (.cells #[.map (some b)] 76)) w' := by
  have hbl := hown.lt
  have hseq : SeqGives Fence.wide 2 Tryz.prog 178 #[.pointer (some ⟨w.heap.size, 0, none⟩)] encStr (fun ss => ss.Perm (strKeys D0)) (Maps.size D0) (w.alloc (.cells #[.map (some b)] 76)) :=
    AnyZ.keys_gives (ρ := Tryz.keys112_ren) { Tryz.keys112 with } Fence.wide _ trivial rfl (by omega) w.heap.size b nn D0 _ (by simp) (by simp) (by
      obtain ⟨es, clock, hb, Ft, hs, hD⟩ := hown
      exact ⟨es, clock, (Below.heap_alloc _ _ b hbl).trans hb, Ft, hs, hD⟩)
  exact AnyZ.sorted_in Tryz.sorted111 Fence.wide 5 trivial trivial trivial trivial rfl (by omega) (Tryz.sorts111 _) (enters_of Tryz.func177 (by kernel_rfl) rfl) 178 #[.pointer (some ⟨w.heap.size, 0, none⟩)] trivial (enters_of Tryz.func178 (by kernel_rfl) rfl) _ _ hmax hbytes _ hseq
set_option maxHeartbeats 1000000 in
/-- **.. AND FOR THE nil MAP: nil.** -/
theorem Tryz.slices_Sorted_keys_nil_111_112 (w : World) :
    CallsIn Fence.wide 5 Tryz.prog 111 #[.func (.func 178) #[] #[.pointer (some ⟨w.heap.size, 0, none⟩)]] (w.alloc (.cells #[.map none] 76)) fun e w' => ∃ (v : Value) (ss : List (List UInt8)), e = .returned v ∧ ss = [] ∧
      w'.ownsRow (w.alloc (.cells #[.map none] 76)).heap.size 9 1 v ss.length ((ss.mergeSort (fun x y => decide (x ≤ y))).map encStr) ∧ (v = .slice none 0 0 ↔ ss = []) ∧ Below (w.alloc (.cells #[.map none] 76)).heap.size (w.alloc (.cells #[.map none] 76)) w' := by
  have hseq : SeqGives Fence.wide 2 Tryz.prog 178 #[.pointer (some ⟨w.heap.size, 0, none⟩)] encStr (fun ss : List (List UInt8) => ss = []) 0 (w.alloc (.cells #[.map none] 76)) :=
    AnyZ.keys_gives_nil (ρ := Tryz.keys112_ren) { Tryz.keys112 with } Fence.wide _ trivial rfl w.heap.size _ (by simp) (by simp)
  exact AnyZ.sorted_in Tryz.sorted111 Fence.wide 5 trivial trivial trivial trivial rfl (by omega) (Tryz.sorts111 _) (enters_of Tryz.func177 (by kernel_rfl) rfl) 178 #[.pointer (some ⟨w.heap.size, 0, none⟩)] trivial (enters_of Tryz.func178 (by kernel_rfl) rfl) _ 0 (Nat.zero_le _) (by omega) _ hseq
end Go.Proofs
