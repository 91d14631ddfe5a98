/- What the rows' list gives of the table of powers of ten. No conditions. -/
import Derived.Test.YteophaobcebppaaGreatDoorLaid
import Derived.LaidSub
set_option linter.unusedSimpArgs false
set_option linter.unusedVariables false
namespace Go.Proofs.YteophaobcebppaaGreatDoor.dg
open Go.ChangeShapes Go.WideShapes Go.ChangeAt Go.RowKit

theorem one_listed : laidAll.filter (fun x => x.1 == "internal/strconv.uint64pow10") = [("internal/strconv.uint64pow10", Rows.laid_internal_strconv_uint64pow10)] := by kernel_rfl
theorem no_handle : [("internal/strconv.uint64pow10", (Rows.laid_internal_strconv_uint64pow10 : DataW Unit))].filter (fun x => x.2.handleName?.isNone) = [("internal/strconv.uint64pow10", Rows.laid_internal_strconv_uint64pow10)] := by kernel_rfl

theorem pow_data : (Rows.laid_internal_strconv_uint64pow10 : DataW Unit) = Lib.tabData .u64 Lib.pow10Tab := by kernel_rfl

set_option maxRecDepth 100000 in
/-- what the rows' list gives of the table of powers of ten. -/
theorem tab_of {W : World} (h : laidMetH Tryz.prog laidAll W) : Tab W := by
  have h1 := h.filter (fun x => x.1 == "internal/strconv.uint64pow10")
  rw [one_listed] at h1
  have h2 := (laidMetH_iff.1 h1).1
  rw [no_handle, pow_data] at h2
  exact Lib.tabIs_of_head (rest := []) gPow gPowType Tryz.underlying154 Tryz.underlying27 cellsU64 cellsPow h2

end Go.Proofs.YteophaobcebppaaGreatDoor.dg
