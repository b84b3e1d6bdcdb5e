/- DERIVED. The library's table, and strconv.Itoa. -/
import Derived.Test.YtjcimajkjnjdpaaDoorRows
import Derived.Test.YtjcimajkjnjdpaaDoorWordsA
import Derived.Test.YtjcimajkjnjdpaaDoorStd
import Derived.Lib.LaidTab
import Derived.Lib.SmallJoins
import Derived.Stop.LaidErr
import Derived.LaidMore
import Derived.Shelf.SlSorted.Search
namespace Go.Proofs.YtjcimajkjnjdpaaDoor
open Go.RowKit
set_option linter.unusedVariables false

def Tab (w : World) : Prop := Lib.TabIs Tryd.prog w "internal/strconv.uint64pow10" .u64 Lib.pow10Tab
theorem tab_of_laid {w : World} (h : laidMetH Tryd.prog [("math/bits.deBruijn32tab", Rows.laid_math_bits_deBruijn32tab), ("math/bits.deBruijn64tab", Rows.laid_math_bits_deBruijn64tab), ("internal/strconv.uint64pow10", Rows.laid_internal_strconv_uint64pow10)] w) : Tab w := by
  rw [MakeChecks.laidMetH_plain _ _ _ (by kernel_rfl)] at h
  have h3 := h.tail.tail
  have e : (Rows.laid_internal_strconv_uint64pow10 : DataW Unit) = Lib.tabData .u64 Lib.pow10Tab := by kernel_rfl
  rw [e] at h3
  exact Lib.tabIs_of_head (g := 3) (t := 126) (e := 96) (n := 20) (by kernel_rfl) (by kernel_rfl) Tryd.underlying126 Tryd.underlying96 (by kernel_rfl) (by kernel_rfl) h3
theorem Tab.below {w w' : World} (h : Tab w) (hb : Below w.heap.size w w') : Tab w' := Joins.tab_stays (g := 3) (by kernel_rfl) h hb (Nat.le_refl _)
theorem itoa_any (n : Nat) (w : World) (hn : n ≤ 140737488355328) (ht : Tab w) : Calls Tryd.prog 53 #[.int .i64 n] w (fun e w' => e = .returned (strV (Lib.itoa n)) ∧ Below w.heap.size w w') := by
  refine (Tryd.strconv_Itoa n (by omega) (by omega) w ht).mono ?_
  rintro e w' ⟨rfl, k, os, rfl⟩
  exact ⟨rfl, below_grown_sl _ w k os (Nat.le_refl _)⟩
end Go.Proofs.YtjcimajkjnjdpaaDoor
