/- What the listed variables give: the table of powers of ten and the two sentinels, in every later world; a world that meets the list. -/
import Derived.Test.YtngjghblpbdciaaGreatDoorRows
import Derived.Test.YtngjghblpbdciaaGreatDoorMe
import Derived.LaidMore
import Derived.MakeChecks
import Derived.Stop.LaidErr
import Derived.Stop.Joined
import Derived.Lib.LaidTab
import Derived.ProofKit
import Derived.Deep.DeepHandedRow
import Derived.Deep.DeepWitnessRowRef
namespace Go.Proofs.YtngjghblpbdciaaGreatDoor
open Go Go.RowKit

theorem gRng : Tryz.prog.globalNamed "strconv.ErrRange" = some 2 := by kernel_rfl
theorem gRngT : (Tryz.prog.globals[2]?).map (·.type) = some 71 := by kernel_rfl
theorem starErr : "*" ++ "errors.errorString" = "*errors.errorString" := by decide
theorem rowErr (u : TypeId) (h : Tryz.prog.typeName? 3 u = some "*errors.errorString") : u = 152 :=
  typeName_ptr_named (nm := "errors.errorString") (by rw [starErr]; kernel_rfl) (by kernel_rfl) (by decide) u (by rw [starErr]; exact h)
theorem cells154 : Tryz.prog.cellsOf 154 = 1 := by kernel_rfl
theorem cellsStr : Tryz.prog.cellsOf 9 = 1 := by kernel_rfl
/-- The list that all rows of this claim bear. -/
def theList : List (String × DataW Unit) := [("math/bits.deBruijn32tab", Rows.laid_math_bits_deBruijn32tab), ("math/bits.deBruijn64tab", Rows.laid_math_bits_deBruijn64tab), ("internal/strconv.uint64pow10", Rows.laid_internal_strconv_uint64pow10), ("strconv.ErrRange", Rows.laid_strconv_ErrRange), ("strconv.ErrSyntax", Rows.laid_strconv_ErrSyntax), ("rollbook/date.lengths", Rows.laid_rollbook_date_lengths)]
theorem var_later {W W' : World} {n : String} {g : Nat} {cs : Array Value} (hg : Tryz.prog.globalNamed n = some g) (hv : W.var? Tryz.prog n = some cs) (hne : 0 < cs.size) (hx : Ext W W') : W'.var? Tryz.prog n = some cs := by
  have h0 := World.var?_cell hg hv 0
  rw [Array.getElem?_eq_getElem hne] at h0
  exact var?_below hx hg (World.block_lt_of_cell? _ _ h0) hv
theorem gLen : Tryz.prog.globalNamed "rollbook/date.lengths" = some 4 := by kernel_rfl
theorem env_of_laid1 {W : World} (h : laidMetH Tryz.prog theList W) : EnvR W ∧ EnvL W := by
  rw [MakeChecks.laidMetH_plain _ _ _ (by kernel_rfl)] at h
  have h4 := h.tail.tail.tail
  have h6 := h4.tail.tail
  refine ⟨?_, fun W' hx => ?_⟩
  · obtain ⟨a0, s0, hv0, _⟩ := laid_sentinel h4 gRng gRngT Tryz.underlying71 rowErr Tryz.underlying152 Tryz.underlying154 rfl rfl Tryz.underlying9 cells154 cellsStr
    exact ⟨152, _, fun W' hx => var_later gRng hv0 (by simp) hx⟩
  · have ht : Lib.TabIs Tryz.prog W "rollbook/date.lengths" .i64 [0, 31, 28, 31, 30, 31, 30, 31, 31, 30, 31, 30, 31] := Lib.tabIs_of_head gLen (by kernel_rfl) Tryz.underlying155 Tryz.underlying3 (by kernel_rfl) (by kernel_rfl) h6
    unfold Lib.TabIs at ht
    have := var_later gLen ht (by decide) hx
    rw [this]; simp
theorem gTab : Tryz.prog.globalNamed "internal/strconv.uint64pow10" = some 3 := by kernel_rfl
theorem env_of_laid2 {W : World} (h : laidMetH Tryz.prog theList W) : (EnvR W ∧ EnvL W) ∧ Tab W := by
  refine ⟨env_of_laid1 h, fun W' hx => ?_⟩
  rw [MakeChecks.laidMetH_plain _ _ _ (by kernel_rfl)] at h
  have ht : Lib.TabIs Tryz.prog W "internal/strconv.uint64pow10" .u64 Lib.pow10Tab := Lib.tabIs_of_head gTab (by kernel_rfl) Tryz.underlying143 Tryz.underlying102 (by kernel_rfl) (by kernel_rfl) h.tail.tail
  unfold Lib.TabIs at ht ⊢
  exact var_later gTab ht (by decide) hx
theorem env_of_laid {W : World} (h : laidMetH Tryz.prog theList W) : EnvW W := env_of_laid2 h
/-- The door's own heap meets the list. -/
theorem door_met (os : Os) (args : Array Value) : laidMetH Tryz.prog theList ((World.doorLaid Tryz.prog 400 os).forCall (fun _ _ => 0) ⟨#[], args, []⟩).memory :=
  laidMetH_of_parts3 (fuel := 8) (laidMet_of_run' 8 (by kernel_rfl) (by kernel_rfl)) (by kernel_rfl) (by kernel_rfl)
end Go.Proofs.YtngjghblpbdciaaGreatDoor
