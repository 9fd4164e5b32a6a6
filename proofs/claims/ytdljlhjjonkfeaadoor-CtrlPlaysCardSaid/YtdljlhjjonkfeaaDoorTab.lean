/- From the card's condition to the fact that the walks ask: the library's table holds what its initialiser lays. No conditions. -/
import Derived.Test.YtdljlhjjonkfeaaDoorRows
import Derived.Test.YtdljlhjjonkfeaaDoorCtrl
import Derived.Lib.LaidTab
import Derived.MakeChecks
namespace Go.Proofs.YtdljlhjjonkfeaaDoor
open Go.RowKit
theorem tab_of {W : World} (h : laidMetH Tryd.prog [("math/bits.deBruijn32tab", Rows.laid_math_bits_deBruijn32tab)] W) : Tab W := by
  rw [MakeChecks.laidMetH_plain _ _ _ (by kernel_rfl)] at h
  have hg : Tryd.prog.globalNamed "math/bits.deBruijn32tab" = some 0 := by kernel_rfl
  have ht := Lib.tabIs_of_head (zs := Lib.deBruijn32tab.map Int.ofNat) (k := .u8) hg (by kernel_rfl) Tryd.underlying55 Tryd.underlying5 (by kernel_rfl) (by kernel_rfl) (show laidMet Tryd.prog (("math/bits.deBruijn32tab", Lib.tabData .u8 (Lib.deBruijn32tab.map Int.ofNat)) :: []) W from h)
  intro j hj
  rw [ht.cell hg j (by simpa using hj)]
  congr 2
  rw [List.getD_eq_getElem?_getD, List.getD_eq_getElem?_getD, List.getElem?_map, List.getElem?_eq_getElem hj]
  rfl
end Go.Proofs.YtdljlhjjonkfeaaDoor
