/- DERIVED. The table of powers of ten, out of the five pinned tables of the Tree seat. -/
import Derived.Test.YtjcimajkjnjdpaaGreatDoorMSexp
namespace Go.Proofs.YtjcimajkjnjdpaaGreatDoor
open Go.RowKit
set_option linter.unusedVariables false
set_option maxRecDepth 100000

theorem tab_of_laid5 {w : World} (h : laidMetH Tryz.prog [("math/bits.deBruijn32tab", Rows.laid_math_bits_deBruijn32tab), ("math/bits.deBruijn64tab", Rows.laid_math_bits_deBruijn64tab), ("internal/strconv.uint64pow10", Rows.laid_internal_strconv_uint64pow10), ("unicode/utf8.acceptRanges", Rows.laid_unicode_utf8_acceptRanges), ("unicode/utf8.first", Rows.laid_unicode_utf8_first)] w) : Tab w := by
  rw [MakeChecks.laidMetH_plain _ _ _ (by kernel_rfl)] at h
  have h3 := h.tail.tail
  have e : (Rows.laid_internal_strconv_uint64pow10 : DataW Unit) = Lib.tabData .u64 Lib.pow10Tab := by kernel_rfl
  rw [e] at h3
  exact Lib.tabIs_of_head (g := 3) (t := 135) (e := 103) (n := 20) (by kernel_rfl) (by kernel_rfl) Tryz.underlying135 Tryz.underlying103 (by kernel_rfl) (by kernel_rfl) h3
end Go.Proofs.YtjcimajkjnjdpaaGreatDoor
