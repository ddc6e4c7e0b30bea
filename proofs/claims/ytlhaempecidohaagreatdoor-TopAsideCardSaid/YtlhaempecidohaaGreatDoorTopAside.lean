/-
  The statement Rows.TopAsideCardSaid: for every input the law returns true; the listed variables start as the program's text lays them. The walk is topAside_law.
-/
import Derived.Test.YtlhaempecidohaaGreatDoorRows
import Derived.Test.YtlhaempecidohaaGreatDoorCards
import Derived.Test.YtlhaempecidohaaGreatDoorTi
import Derived.Test.YtlhaempecidohaaGreatDoorTj
import Derived.WalkKit
import Derived.ProofKit
import Derived.OpenShut
import Derived.ShutString
import Derived.ChangeOld
import Derived.Below
import Derived.LaidMore
import Derived.Lay
import Derived.SevenTiedAt
import Derived.Stop.Joined
import Derived.Stop.LaidErr
import Derived.Test.YtlhaempecidohaaGreatDoorJby
import Derived.Test.YtlhaempecidohaaGreatDoorJbx
namespace Go.Proofs.YtlhaempecidohaaGreatDoor.topAside
open Go.ChangeShapes Go.WideShapes Go.ChangeAt Go.RowKit
set_option linter.unusedVariables false

theorem own : ownKnob Tryz.prog.godebug = none := by kernel_rfl
theorem laidOut : laidOutB Tryz.prog = true := by kernel_rfl

/-- the library's variables, as the row's list lays them -/
theorem pow10_data : (Rows.laid_internal_strconv_uint64pow10 : DataW Unit) = Lib.tabData .u64 Lib.pow10Tab := by kernel_rfl
theorem env_of {W : World} (hsh : W.ShapedOpen Tryz.prog) (hL : laidMetH Tryz.prog Rows.topAsideRow.laid W) : Env W := by
  rw [MakeChecks.laidMetH_plain _ _ _ (by kernel_rfl)] at hL
  have h0 : laidMet Tryz.prog [("internal/strconv.uint64pow10", Rows.laid_internal_strconv_uint64pow10), ("math/bits.deBruijn32tab", Rows.laid_math_bits_deBruijn32tab), ("math/bits.deBruijn64tab", Rows.laid_math_bits_deBruijn64tab), ("strconv.ErrSyntax", Rows.laid_strconv_ErrSyntax), ("strconv.ErrRange", Rows.laid_strconv_ErrRange), ("unicode/utf8.first", Rows.laid_unicode_utf8_first), ("unicode/utf8.acceptRanges", Rows.laid_unicode_utf8_acceptRanges), ("unicode.CaseRanges", Rows.laid_unicode_CaseRanges)] W := hL
  rw [pow10_data] at h0
  exact env_laid hsh h0

set_option maxRecDepth 100000 in
theorem lifted (os : Os) (started : os.Started) (H : Type) (enc : TypeId × Value → H) :
    ReturnsInHanded {} Tryz.checked os 3 .any (fun w args => (Rows.topAsideSpec.pre enc Tryz.prog Tryz.f3 Rows.topAsideRow.domain false w args ∧ laidMetH Tryz.prog Rows.topAsideRow.laid w) ∧ sizedMet enc Tryz.prog Tryz.f3 (OpenSpec.ofChange Rows.topAsideSpec) false w args)
      (Rows.topAsideSpec.post enc Tryz.prog Tryz.f3 false true false false) := by
  refine handed_and_shaped (C := Tryz.checked) (X := fun w _ => laidMetH Tryz.prog Rows.topAsideRow.laid w) (fun _ _ _ hh h => h.of_heap hh) own started (by kernel_rfl) Tryz.func3
    (ChangeSpec.witness_shaped (enc := enc) (C := Tryz.checked) (os := os) (X := fun w _ => laidMetH Tryz.prog Rows.topAsideRow.laid w) false (World.laidAll Tryz.prog os Rows.topAsideRow.laid) #[.slice none 0 0, .slice none 0 0, .bool false] 8 (World.laidAll_os _ _ _)
      (World.shaped_of_ZipB (by kernel_rfl) (by kernel_rfl)) (by kernel_rfl) (by kernel_rfl) (by kernel_rfl)
      (by rw [MakeChecks.laidMetH_plain _ _ _ (by kernel_rfl)]; exact laidMet_laidAll _ (by kernel_rfl) (by kernel_rfl))) ?_
  intro W base args ds gs before hval0 hW hcnd hreach0 hL hsh
  have hval : ∀ (j : Nat) t v, Tryz.f3.params[j]? = some t → args[j]? = some v → Value.okWide Tryz.prog W .any base t v := hval0
  have hW' := hW
  obtain ⟨p, q, hA0, hV, rfl, hfz, hnd⟩ := hW
  have hA : DataW.TrodAll enc Tryz.prog W 0 (fun _ => true) true Tryz.f3.params.toList args.toList ds p := hA0
  rw [Tryz.params3] at hA hval
  have hreach := hreach0
  rw [Tryz.params3] at hreach
  obtain ⟨v0, vs0, d0, ds0, p0, q0, hargs, rfl, rfl, h0, r0⟩ := trodAll_cons hA
  obtain ⟨v1, vs1, d1, ds1, p1, q1, rfl, rfl, rfl, h1, r1⟩ := trodAll_cons r0
  obtain ⟨v2, vs2, d2, ds2, p2, q2, rfl, rfl, rfl, h2, r2⟩ := trodAll_cons r1
  obtain ⟨rfl, rfl, rfl⟩ := trodAll_nil r2
  obtain rfl : args = #[v0, v1, v2] := by cases args; simp_all
  obtain ⟨rfl, rfl⟩ := trodVars_none hV
  have lt0 : ∀ x ∈ p0, x.block < W.heap.size := by obtain ⟨m, hm⟩ := h0; exact DataW.trod_lt m _ _ _ hm
  have lt1 : ∀ x ∈ p1, x.block < W.heap.size := by obtain ⟨m, hm⟩ := h1; exact DataW.trod_lt m _ _ _ hm
  have hw0 : ∀ m ∈ d0.weights Tryz.prog 22, m ≤ reachBytes := fun m hm => of_decide_eq_true (List.all_eq_true.1 hreach _ (DataW.weights_mem_each (j := 0) rfl rfl m hm))
  have hw1 : ∀ m ∈ d1.weights Tryz.prog 23, m ≤ reachBytes := fun m hm => of_decide_eq_true (List.all_eq_true.1 hreach _ (DataW.weights_mem_each (j := 1) rfl rfl m hm))
  obtain ⟨A, n, c, os', rfl, hruns⟩ := arg_runs (hval 0 22 v0 rfl rfl) h0 hw0
  obtain ⟨B, k, d, l, rfl, hrb, hkd, hk⟩ := arg_bytes (hval 1 23 v1 rfl rfl) h1 hw1
  obtain ⟨b, rfl, rfl, rfl⟩ := arg_bool (hval 2 4 v2 rfl rfl) h2
  clear hA0 hval0
  refine (topAside_law (env_of hsh hL) (shape_size hsh) A n c os' hruns B k d l hrb hkd hk b).mono fun e W' ⟨he, bel⟩ => ?_
  subst he
  exact ⟨_, rfl, _, _, _, [], _, [], hW', trodAll_mk1 (shut_bool und4b _), (trodAll_cons_mk (Below.trod laidOut (by kernel_rfl) (of_decide_eq_true (by kernel_rfl)) h0 bel lt0) (trodAll_cons_mk (Below.trod laidOut (by kernel_rfl) (of_decide_eq_true (by kernel_rfl)) h1 bel lt1) (trodAll_cons_mk (shut_bool und4b _) trodAll_mk0))), rfl, bel.frame _, fun h => by cases h⟩

theorem over : Rows.TopAsideSaid :=
  OpenClaim.holds_of_wide 3 Tryz.f3 rfl rfl rfl rfl rfl rfl rfl ⟨rfl, rfl, rfl, rfl, rfl⟩ rfl rfl rfl rfl rfl jn Tryz.func3 closed ji jw
    (fun os started H enc _ => lifted os started H enc)

theorem proved : Rows.TopAsideCardSaid :=
  Claim7.holds_tied_plain_at .later [] [.data, .data, .data, .sentinel, .sentinel, .pinned, .data, .pinned] true (true, "b61ef0fd796794c1d98d98221fb401f7006f21e52613d2c589762b4deaa9e09c") true over (fun _ h => by cases h) jt (fun _ h => by cases h) topAside_tied rfl ⟨rfl, rfl⟩ jm rfl jh jg
#print axioms proved
end Go.Proofs.YtlhaempecidohaaGreatDoor.topAside
