/- From what the row lists of the package's variables to what the walks count on. No condition. -/
import Derived.Test.YtihgplkfikpgbaaDoorEngQ
import Derived.Test.YtihgplkfikpgbaaDoorRows
import Derived.LaidMore
import Derived.Stop.Joined
import Derived.Stop.LaidErr
import Derived.Lib.LaidTab
set_option maxRecDepth 100000
namespace Go.Proofs.YtihgplkfikpgbaaDoor
open Go.RowKit
theorem gP : Tryd.prog.globalNamed "strings.asciiSpace" = some 0 := by kernel_rfl
theorem tP : (Tryd.prog.globals[0]?).map (·.type) = some 119 := by kernel_rfl
theorem sp_data : (Rows.laid_strings_asciiSpace : DataW Unit) = Lib.tabData .u8 Lib.asciiSpaceTab := by rfl
theorem tw_of_laid {W : World} (h : laidMetH Tryd.prog Rows.topFaxRow.laid W) : Go.Eng.Tw W := by
  rw [MakeChecks.laidMetH_plain _ _ _ (by kernel_rfl)] at h
  have h2 := h.tail
  rw [sp_data] at h2
  exact Lib.tabIs_of_head gP tP Tryd.underlying119 Tryd.underlying5 (by kernel_rfl) (by kernel_rfl) h2
end Go.Proofs.YtihgplkfikpgbaaDoor
