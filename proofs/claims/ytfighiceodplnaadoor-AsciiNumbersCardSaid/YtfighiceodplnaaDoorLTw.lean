/- From what the row lists of the package's variables to what the walks count on. No condition. -/
import Derived.Test.YtfighiceodplnaaDoorEngQ
import Derived.Test.YtfighiceodplnaaDoorRows
import Derived.LaidMore
import Derived.Stop.Joined
import Derived.Stop.LaidErr
import Derived.Lib.LaidTab
set_option maxRecDepth 100000
namespace Go.Proofs.YtfighiceodplnaaDoor
open Go.RowKit
theorem gP : Tryd.prog.globalNamed "internal/strconv.uint64pow10" = some 0 := by kernel_rfl
theorem tP : (Tryd.prog.globals[0]?).map (·.type) = some 83 := by kernel_rfl
theorem pow_data : (Rows.laid_internal_strconv_uint64pow10 : DataW Unit) = Lib.tabData .u64 Lib.pow10Tab := by rfl
theorem tw_of_laid {W : World} (h : laidMetH Tryd.prog Rows.asciiTimesRow.laid W) : Go.Eng.Tw W := by
  rw [MakeChecks.laidMetH_plain _ _ _ (by kernel_rfl)] at h
  have h2 := h.tail.tail
  rw [pow_data] at h2
  exact Lib.tabIs_of_head gP tP Tryd.underlying83 Tryd.underlying69 (by kernel_rfl) (by kernel_rfl) h2
end Go.Proofs.YtfighiceodplnaaDoor
