/- What the row's list gives of the library's variables; a start for the witness. -/
import Derived.Test.YtjkobbmdemooaaaGreatDoorPx4
import Derived.Test.YtjkobbmdemooaaaGreatDoorRows
import Derived.Lib.LaidTab
import Derived.LaidMore
import Derived.Stop.LaidErr
namespace Go.Proofs.YtjkobbmdemooaaaGreatDoor
open Go.RowKit

theorem gRange : Tryz.prog.globalNamed "strconv.ErrRange" = some (Tryz.laysAtoi_ren.g 16) := by kernel_rfl
theorem gSyntax : Tryz.prog.globalNamed "strconv.ErrSyntax" = some (Tryz.laysAtoi_ren.g 15) := by kernel_rfl
theorem gRangeType : (Tryz.prog.globals[Tryz.laysAtoi_ren.g 16]?).map (·.type) = some 139 := by kernel_rfl
theorem gSyntaxType : (Tryz.prog.globals[Tryz.laysAtoi_ren.g 15]?).map (·.type) = some 139 := by kernel_rfl
theorem cellsErrStr : Tryz.prog.cellsOf 212 = 1 := by kernel_rfl
theorem cellsStr : Tryz.prog.cellsOf 9 = 1 := by kernel_rfl
theorem star : "*" ++ "errors.errorString" = "*errors.errorString" := by decide
theorem rowErr (u : TypeId) (h : Tryz.prog.typeName? 3 u = some "*errors.errorString") : u = 210 :=
  typeName_ptr_named (nm := "errors.errorString") (by rw [star]; kernel_rfl) (by kernel_rfl) (by decide) u (by rw [star]; exact h)
theorem gTab : Tryz.prog.globalNamed "internal/strconv.uint64pow10" = some 3 := by kernel_rfl
theorem gTabType : (Tryz.prog.globals[3]?).map (·.type) = some 204 := by kernel_rfl
theorem cellsTab : Tryz.prog.cellsOf 204 = 20 := by kernel_rfl
theorem cellsU64 : Tryz.prog.cellsOf 130 = 1 := by kernel_rfl
theorem tabEq : (Rows.laid_internal_strconv_uint64pow10 : DataW Unit) = Lib.tabData .u64 Lib.pow10Tab := by kernel_rfl

theorem env_of_laid {W : World} (h : laidMetH Tryz.prog Rows.planExactRow.laid W) : Env W := by
  have h : laidMet Tryz.prog Rows.planExactRow.laid W := h
  have h2 := h.tail.tail
  have h3 := h2.tail
  have h4 := h3.tail
  refine ⟨?_, ?_, ?_⟩
  · change laidMet Tryz.prog ((_, Rows.laid_internal_strconv_uint64pow10) :: _) W at h2
    rw [tabEq] at h2
    exact Lib.tabIs_of_head gTab gTabType Tryz.underlying204 Tryz.underlying130 cellsU64 cellsTab h2
  · obtain ⟨a0, s0, hv0, -, -, -⟩ := laid_sentinel h4 gSyntax gSyntaxType Tryz.underlying139 rowErr Tryz.underlying210 Tryz.underlying212 rfl rfl Tryz.underlying9 cellsErrStr cellsStr
    exact ⟨_, (by have h0 := World.var?_cell gSyntax hv0 0; simpa using h0), .inr ⟨_, _, rfl⟩⟩
  · obtain ⟨a0, s0, hv0, -, -, -⟩ := laid_sentinel h3 gRange gRangeType Tryz.underlying139 rowErr Tryz.underlying210 Tryz.underlying212 rfl rfl Tryz.underlying9 cellsErrStr cellsStr
    exact ⟨_, (by have h0 := World.var?_cell gRange hv0 0; simpa using h0), .inr ⟨_, _, rfl⟩⟩

theorem laid_met (os : Os) (args : Array Value) : laidMet Tryz.prog Rows.planExactRow.laid ((World.doorLaid Tryz.prog 400 os).forCall (fun _ _ => 0) ⟨#[], args, []⟩).memory :=
  laidMet_of_run' 8 (by kernel_rfl) (by kernel_rfl)

end Go.Proofs.YtjkobbmdemooaaaGreatDoor
