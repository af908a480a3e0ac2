/- From what the row lists of the package's variables to the first world that the walks count on. No condition. -/
import Derived.Test.YthbdglibakjfbaaDoorEngQ
import Derived.Test.YthbdglibakjfbaaDoorRows
import Derived.Test.YthbdglibakjfbaaDoorWShelf
import Derived.PinnedBridge
import Derived.LaidMore
import Derived.Stop.Joined
import Derived.Stop.LaidErr
import Derived.Lib.LaidTab
set_option maxRecDepth 100000
set_option linter.unusedSectionVars false
namespace Go.Proofs.YthbdglibakjfbaaDoor
open Go.Proofs Go.RowKit
theorem gP : Tryd.prog.globalNamed "internal/strconv.uint64pow10" = some 7 := by kernel_rfl
theorem gS : Tryd.prog.globalNamed "strings.asciiSpace" = some 0 := by kernel_rfl
theorem gB : Tryd.prog.globalNamed "math/bits.deBruijn64tab" = some 14 := by kernel_rfl
theorem tP : (Tryd.prog.globals[7]?).map (·.type) = some 143 := by kernel_rfl
theorem tS : (Tryd.prog.globals[0]?).map (·.type) = some 69 := by kernel_rfl
theorem tB : (Tryd.prog.globals[14]?).map (·.type) = some 157 := by kernel_rfl
theorem pow_data : (Rows.laid_internal_strconv_uint64pow10 : DataW Unit) = Lib.tabData .u64 Lib.pow10Tab := by rfl
theorem bru_data : (Rows.laid_math_bits_deBruijn64tab : DataW Unit) = Lib.tabData .u8 Go.Eng.bru64 := by rfl
theorem spc_data : (Rows.laid_strings_asciiSpace : DataW Unit) = Lib.tabData .u8 Lib.asciiSpaceTab := by rfl
theorem acc_data : (Rows.laid_unicode_utf8_acceptRanges : DataW Unit) = Lib.acceptData := by kernel_rfl
theorem fst_data : Rows.laid_unicode_utf8_first = Lib.firstData := Pinned.utf8First_eq
theorem p16_data : Rows.laid_strconv_isPrint16 = Lib.sliceData .u16 Lib.goPrintTabs.p16 := Pinned.isPrint16_eq
theorem n16_data : Rows.laid_strconv_isNotPrint16 = Lib.sliceData .u16 Lib.goPrintTabs.n16 := Pinned.isNotPrint16_eq
theorem p32_data : Rows.laid_strconv_isPrint32 = Lib.sliceData .u32 Lib.goPrintTabs.p32 := Pinned.isPrint32_eq
theorem n32_data : Rows.laid_strconv_isNotPrint32 = Lib.sliceData .u16 Lib.goPrintTabs.n32 := Pinned.isNotPrint32_eq
theorem laid_lo {W : World} (h : laidMetH Tryd.prog Rows.registryRulesRow.laid W) : ∃ l : Go.Eng.Lo, l.w0 = W := by
  rw [MakeChecks.laidMetH_plain _ _ _ (by kernel_rfl)] at h
  have h1 : laidMet Tryd.prog [("math/bits.deBruijn32tab", Rows.laid_math_bits_deBruijn32tab), ("math/bits.deBruijn64tab", Rows.laid_math_bits_deBruijn64tab), ("internal/strconv.uint64pow10", Rows.laid_internal_strconv_uint64pow10), ("unicode/utf8.acceptRanges", Rows.laid_unicode_utf8_acceptRanges), ("strconv.ErrRange", Rows.laid_strconv_ErrRange), ("strconv.ErrSyntax", Rows.laid_strconv_ErrSyntax), ("unicode.White_Space", Rows.laid_unicode_White_Space), ("strings.asciiSpace", Rows.laid_strings_asciiSpace), ("strconv.isGraphic", Rows.laid_strconv_isGraphic), ("strconv.isNotPrint16", Rows.laid_strconv_isNotPrint16), ("strconv.isNotPrint32", Rows.laid_strconv_isNotPrint32), ("strconv.isPrint16", Rows.laid_strconv_isPrint16), ("strconv.isPrint32", Rows.laid_strconv_isPrint32), ("unicode/utf8.first", Rows.laid_unicode_utf8_first)] W := h
  rw [pow_data, bru_data, spc_data, acc_data, fst_data, p16_data, n16_data, p32_data, n32_data] at h1
  have hU : Lib.Utf8Tabs 4 5 W :=
    utf8Tabs_of_reads (ρ := Tryd.lays177_ren) { Tryd.lays177 with } ⟨by kernel_rfl, by kernel_rfl, by kernel_rfl, by kernel_rfl, by kernel_rfl, by kernel_rfl, by kernel_rfl⟩ (Lib.laidMet.reads h1 (by simp)) (Lib.laidMet.reads h1 (by simp))
  have hT : Lib.PrintTabsAt 8 9 10 11 Lib.goPrintTabs W :=
    printTabs_of_reads (ρ := Tryd.lays177_ren) { Tryd.lays177 with } ⟨by kernel_rfl, by kernel_rfl, by kernel_rfl, by kernel_rfl, by kernel_rfl, by kernel_rfl, by kernel_rfl, by kernel_rfl, by kernel_rfl, by kernel_rfl⟩
      (Lib.laidMet.reads h1 (by simp)) (Lib.laidMet.reads h1 (by simp)) (Lib.laidMet.reads h1 (by simp)) (Lib.laidMet.reads h1 (by simp))
  refine ⟨⟨W, ?_, ?_, ?_, hT, hU⟩, rfl⟩
  · exact Lib.tabIs_of_head gS tS Tryd.underlying69 Tryd.underlying5 (by kernel_rfl) (by kernel_rfl) h1.tail.tail.tail.tail.tail.tail.tail
  · exact Lib.tabIs_of_head gP tP Tryd.underlying143 Tryd.underlying56 (by kernel_rfl) (by kernel_rfl) h1.tail.tail
  · exact Lib.tabIs_of_head gB tB Tryd.underlying157 Tryd.underlying5 (by kernel_rfl) (by kernel_rfl) h1.tail
theorem laid_lo2 {W : World} (h : laidMetH Tryd.prog Rows.registryShowsRow.laid W) : ∃ l : Go.Eng.Lo, l.w0 = W := laid_lo h
end Go.Proofs.YthbdglibakjfbaaDoor
