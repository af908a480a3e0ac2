/- From what the row lists of the package's variables to what the walks count on. No condition. -/
import Derived.Test.YtlonmloicafejaaDoorEngQ
import Derived.Test.YtlonmloicafejaaDoorRows
import Derived.LaidMore
import Derived.Stop.Joined
import Derived.Stop.LaidErr
import Derived.Lib.LaidTab
set_option maxRecDepth 100000
namespace Go.Proofs.YtlonmloicafejaaDoor
open Go.RowKit
theorem gP : Tryd.prog.globalNamed "internal/strconv.uint64pow10" = some 3 := by kernel_rfl
theorem gS : Tryd.prog.globalNamed "strconv.ErrSyntax" = some 1 := by kernel_rfl
theorem gR : Tryd.prog.globalNamed "strconv.ErrRange" = some 2 := by kernel_rfl
theorem tP : (Tryd.prog.globals[3]?).map (·.type) = some 83 := by kernel_rfl
theorem tS : (Tryd.prog.globals[1]?).map (·.type) = some 53 := by kernel_rfl
theorem tR : (Tryd.prog.globals[2]?).map (·.type) = some 53 := by kernel_rfl
theorem star : "*errors.errorString" = "*" ++ "errors.errorString" := by decide
theorem row90 (u : TypeId) (h : Tryd.prog.typeName? 3 u = some "*errors.errorString") : u = 90 :=
  typeName_ptr_named (nm := "errors.errorString") (by rw [← star]; kernel_rfl) (by kernel_rfl) (by decide) u (by rw [← star]; exact h)
theorem pow_data : (Rows.laid_internal_strconv_uint64pow10 : DataW Unit) = Lib.tabData .u64 Lib.pow10Tab := by rfl
theorem tw_of_laid {W : World} (h : laidMetH Tryd.prog Rows.ratioParsesRow.laid W) : Go.Eng.Tw W := by
  rw [MakeChecks.laidMetH_plain _ _ _ (by kernel_rfl)] at h
  have h2 := h.tail.tail
  refine ⟨?_, ?_, ?_⟩
  · rw [pow_data] at h2
    exact Lib.tabIs_of_head gP tP Tryd.underlying83 Tryd.underlying38 (by kernel_rfl) (by kernel_rfl) h2
  · obtain ⟨a, s, hv, _⟩ := laid_sentinel h2.tail.tail gS tS Tryd.underlying53 row90 Tryd.underlying90 Tryd.underlying92 rfl rfl Tryd.underlying9 (by kernel_rfl) (by kernel_rfl)
    exact ⟨_, _, hv⟩
  · obtain ⟨a, s, hv, _⟩ := laid_sentinel h2.tail gR tR Tryd.underlying53 row90 Tryd.underlying90 Tryd.underlying92 rfl rfl Tryd.underlying9 (by kernel_rfl) (by kernel_rfl)
    exact ⟨_, _, hv⟩
end Go.Proofs.YtlonmloicafejaaDoor
