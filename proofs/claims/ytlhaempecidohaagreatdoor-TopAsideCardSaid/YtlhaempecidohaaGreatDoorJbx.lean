/-
  The listed variables give what the walks ask of the library's variables.
-/
import Derived.Stop.LaidErr
import Derived.Lib.LaidTab
import Derived.Test.YtlhaempecidohaaGreatDoorJbw
import Derived.Test.YtlhaempecidohaaGreatDoorJaz
set_option linter.unusedSimpArgs false
set_option linter.unusedVariables false
namespace Go.Proofs.YtlhaempecidohaaGreatDoor
theorem gTabType : (Tryz.prog.globals[3]?).map (·.type) = some 390 := by kernel_rfl
theorem und390 : Tryz.prog.underlying 390 = some (.array 20 281) := by kernel_rfl
theorem und281 : Tryz.prog.underlying 281 = some (.int .u64) := by kernel_rfl
theorem k281 : Tryz.prog.cellsOf 281 = 1 := by kernel_rfl
theorem k390 : Tryz.prog.cellsOf 390 = 20 := by kernel_rfl
theorem gErrType : (Tryz.prog.globals[1]?).map (·.type) = some 205 := by kernel_rfl
theorem face205 : ((Tryz.prog.underlying 205).map fun d => match d with | .interface _ => true | _ => false) = some true := by kernel_rfl
theorem und205 : ∃ ms, Tryz.prog.underlying 205 = some (.interface ms) := by
  have h := face205
  cases hu : Tryz.prog.underlying 205 with
  | none => rw [hu] at h; cases h
  | some d =>
    rw [hu] at h
    cases d
    case interface ms => exact ⟨ms, rfl⟩
    all_goals simp at h
theorem star_name : "*" ++ "errors.errorString" = "*errors.errorString" := by decide
theorem row410 (u : TypeId) (h : Tryz.prog.typeName? 3 u = some "*errors.errorString") : u = 410 :=
  typeName_ptr_named (nm := "errors.errorString") (by rw [star_name]; kernel_rfl) (by kernel_rfl) (by decide) u (by rw [star_name]; exact h)
theorem und410 : Tryz.prog.underlying 410 = some (.pointer 412) := by kernel_rfl
theorem fieldsE : fieldsOf 412 = some [(9, 0)] := by kernel_rfl
theorem kE : Tryz.prog.cellsOf 412 = 1 := by kernel_rfl
set_option maxRecDepth 100000 in
theorem env_laid {W : World} {x1 x2 : String × DataW Unit} {text : List UInt8} {r : List (String × DataW Unit)} (hsh : W.ShapedOpen Tryz.prog)
    (h : laidMet Tryz.prog (("internal/strconv.uint64pow10", Lib.tabData .u64 Lib.pow10Tab) :: x1 :: x2 :: ("strconv.ErrSyntax", .iface "*errors.errorString" (.ptr (.agg [.lit (.string text)]))) :: r) W) : Env W := by
  obtain ⟨ms, hms⟩ := und205
  obtain ⟨fs, hu, hfs⟩ := und_fields fieldsE
  match fs, hfs with
  | [f], hfs =>
    simp only [List.map_cons, List.map_nil, List.cons.injEq, Prod.mk.injEq, and_true] at hfs
    obtain ⟨a, s, hv, -⟩ := laid_sentinel h.tail.tail.tail Tryz.gErr gErrType hms row410 und410 hu hfs.1 hfs.2 und9s kE k9
    exact ⟨shape_maxlen hsh, Lib.tabIs_of_head Tryz.gTab gTabType und390 und281 k281 k390 h, ⟨410, _, hv⟩⟩
end Go.Proofs.YtlhaempecidohaaGreatDoor
