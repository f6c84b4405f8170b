/- What the listed variables give: the table of powers of ten and the two sentinels, in every later world; a world that meets the list. -/
import Derived.Test.YtdbnddmncbjobaaGreatDoorRows
import Derived.Test.YtdbnddmncbjobaaGreatDoorMab
import Derived.LaidMore
import Derived.MakeChecks
import Derived.Stop.LaidErr
import Derived.Stop.Joined
import Derived.Lib.LaidTab
import Derived.ProofKit
import Derived.Deep.DeepHandedRow
import Derived.Deep.DeepWitnessRowRef
namespace Go.Proofs.YtdbnddmncbjobaaGreatDoor
open Go Go.RowKit
theorem gWid : Tryz.prog.globalNamed "rollbook/glyph.widths" = some 4 := by kernel_rfl
theorem var_later {W W' : World} {n : String} {g : Nat} {cs : Array Value} (hg : Tryz.prog.globalNamed n = some g) (hv : W.var? Tryz.prog n = some cs) (hne : 0 < cs.size) (hx : Ext W W') : W'.var? Tryz.prog n = some cs := by
 have h0 := World.var?_cell hg hv 0
 rw [Array.getElem?_eq_getElem hne] at h0
 exact var?_below hx hg (World.block_lt_of_cell? _ _ h0) hv
end Go.Proofs.YtdbnddmncbjobaaGreatDoor
