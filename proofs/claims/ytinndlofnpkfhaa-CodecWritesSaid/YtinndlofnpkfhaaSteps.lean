/-
  The walk of sum.steps: a table, by value.
-/
import Derived.Test.YtinndlofnpkfhaaArr
import Derived.Test.YtinndlofnpkfhaaSha
import Derived.Laws.CopyOwn
namespace Go.Proofs.Ytinndlofnpkfhaa
open Go.RowKit

set_option maxHeartbeats 400000 in
theorem steps_any (w : World) : Calls Try.prog 60 #[] w fun e w' => e = .returned (.agg (mk .u32 Sha.K)) ∧ Below w.heap.size w w' := by
  go_enter Try.func60, Try.ntmps60
  obtain ⟨l, hl⟩ : ∃ l, l = Sha.K := ⟨_, rfl⟩
  go_wp2_with (first
    | (refine wpList_alloc_ar rfl 89 rfl .u32 64 z89 ?_)
    | (refine wpList_build_ar rfl 89 24 64 _ rfl .u32 Sha.K y89 (by kernel_rfl) (by kernel_rfl) (by kernel_rfl) ?_; rw [← hl])
    | (refine wpList_store_ar rfl 89 _ _ rfl rfl w.heap.size rfl .u32 (List.replicate 64 0) _ rfl (Ar.new _ _ _ _) s89 (by subst hl; rfl) ?_))
  exact bodyPost_ret (results_ar rfl _ _ w.heap.size .u32 l rfl (Ar.row (Ar.new _ _ _ _) l) 64 24 y89 (by rw [hl]; exact s89)) rfl ⟨by rw [hl], below_setRow ((Below.refl _ _).alloc (Nat.le_refl _) _) (Nat.le_refl _) _⟩
end Go.Proofs.Ytinndlofnpkfhaa
