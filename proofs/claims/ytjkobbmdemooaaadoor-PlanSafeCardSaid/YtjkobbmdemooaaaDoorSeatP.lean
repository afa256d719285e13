/- What the row's list gives of the library's variables; a start for the witness. -/
import Derived.Test.YtjkobbmdemooaaaDoorBeadB
import Derived.Test.YtjkobbmdemooaaaDoorRows
import Derived.Lib.LaidTab
import Derived.LaidMore
import Derived.Stop.LaidErr
namespace Go.Proofs.YtjkobbmdemooaaaDoor
open Go.RowKit

theorem gRange : Tryd.prog.globalNamed "strconv.ErrRange" = some (Tryd.laysAtoi_ren.g 16) := by kernel_rfl
theorem gSyntax : Tryd.prog.globalNamed "strconv.ErrSyntax" = some (Tryd.laysAtoi_ren.g 15) := by kernel_rfl
theorem gRangeType : (Tryd.prog.globals[Tryd.laysAtoi_ren.g 16]?).map (·.type) = some 96 := by kernel_rfl
theorem gSyntaxType : (Tryd.prog.globals[Tryd.laysAtoi_ren.g 15]?).map (·.type) = some 96 := by kernel_rfl
theorem cellsErrStr : Tryd.prog.cellsOf 151 = 1 := by kernel_rfl
theorem cellsStr : Tryd.prog.cellsOf 9 = 1 := by kernel_rfl
theorem star : "*" ++ "errors.errorString" = "*errors.errorString" := by decide
theorem rowErr (u : TypeId) (h : Tryd.prog.typeName? 3 u = some "*errors.errorString") : u = 149 :=
  typeName_ptr_named (nm := "errors.errorString") (by rw [star]; kernel_rfl) (by kernel_rfl) (by decide) u (by rw [star]; exact h)
theorem gTab : Tryd.prog.globalNamed "internal/strconv.uint64pow10" = some 3 := by kernel_rfl
theorem gTabType : (Tryd.prog.globals[3]?).map (·.type) = some 141 := by kernel_rfl
theorem cellsTab : Tryd.prog.cellsOf 141 = 20 := by kernel_rfl
theorem cellsU64 : Tryd.prog.cellsOf 126 = 1 := by kernel_rfl
theorem tabEq : (Rows.laid_internal_strconv_uint64pow10 : DataW Unit) = Lib.tabData .u64 Lib.pow10Tab := by kernel_rfl

theorem env_of_laid {W : World} (h : laidMetH Tryd.prog Rows.planBackRow.laid W) : Env W := by
  have h : laidMet Tryd.prog Rows.planBackRow.laid W := h
  have h2 := h.tail.tail
  have h3 := h2.tail
  have h4 := h3.tail
  refine ⟨?_, ?_, ?_⟩
  · change laidMet Tryd.prog ((_, Rows.laid_internal_strconv_uint64pow10) :: _) W at h2
    rw [tabEq] at h2
    exact Lib.tabIs_of_head gTab gTabType Tryd.underlying141 Tryd.underlying126 cellsU64 cellsTab h2
  · obtain ⟨a0, s0, hv0, -, -, -⟩ := laid_sentinel h4 gSyntax gSyntaxType Tryd.underlying96 rowErr Tryd.underlying149 Tryd.underlying151 rfl rfl Tryd.underlying9 cellsErrStr cellsStr
    exact ⟨_, (by have h0 := World.var?_cell gSyntax hv0 0; simpa using h0), .inr ⟨_, _, rfl⟩⟩
  · obtain ⟨a0, s0, hv0, -, -, -⟩ := laid_sentinel h3 gRange gRangeType Tryd.underlying96 rowErr Tryd.underlying149 Tryd.underlying151 rfl rfl Tryd.underlying9 cellsErrStr cellsStr
    exact ⟨_, (by have h0 := World.var?_cell gRange hv0 0; simpa using h0), .inr ⟨_, _, rfl⟩⟩

theorem laid_met (os : Os) (args : Array Value) : laidMet Tryd.prog Rows.planBackRow.laid ((World.doorLaid Tryd.prog 400 os).forCall (fun _ _ => 0) ⟨#[], args, []⟩).memory :=
  laidMet_of_run' 8 (by kernel_rfl) (by kernel_rfl)

end Go.Proofs.YtjkobbmdemooaaaDoor
