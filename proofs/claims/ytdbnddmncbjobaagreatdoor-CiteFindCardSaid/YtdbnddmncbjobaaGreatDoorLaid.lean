/- What the listed variables give: the table of powers of ten and the two sentinels, in every later world; a world that meets the list. -/
import Derived.Test.YtdbnddmncbjobaaGreatDoorRows
import Derived.Test.YtdbnddmncbjobaaGreatDoorMa
import Derived.Test.YtdbnddmncbjobaaGreatDoorMb
import Derived.LaidMore
import Derived.MakeChecks
import Derived.Stop.LaidErr
import Derived.Stop.Joined
import Derived.Lib.LaidTab
import Derived.ProofKit
import Derived.Deep.DeepHandedRow
import Derived.Deep.DeepWitnessRowRef
namespace Go.Proofs.YtdbnddmncbjobaaGreatDoor
open Go Go.RowKit

theorem gSyn : Tryz.prog.globalNamed "strconv.ErrSyntax" = some 1 := by kernel_rfl
theorem gRng : Tryz.prog.globalNamed "strconv.ErrRange" = some 2 := by kernel_rfl
theorem gTab : Tryz.prog.globalNamed "internal/strconv.uint64pow10" = some 3 := by kernel_rfl
theorem gWid : Tryz.prog.globalNamed "rollbook/glyph.widths" = some 4 := by kernel_rfl
theorem gSynT : (Tryz.prog.globals[1]?).map (·.type) = some 150 := by kernel_rfl
theorem gRngT : (Tryz.prog.globals[2]?).map (·.type) = some 150 := by kernel_rfl
theorem starErr : "*" ++ "errors.errorString" = "*errors.errorString" := by decide
theorem rowErr (u : TypeId) (h : Tryz.prog.typeName? 3 u = some "*errors.errorString") : u = 263 :=
  typeName_ptr_named (nm := "errors.errorString") (by rw [starErr]; kernel_rfl) (by kernel_rfl) (by decide) u (by rw [starErr]; exact h)
theorem cells265 : Tryz.prog.cellsOf 265 = 1 := by kernel_rfl
theorem cellsStr : Tryz.prog.cellsOf 9 = 1 := by kernel_rfl
/-- The list that all rows of this claim bear. -/
def theList : List (String × DataW Unit) := [("math/bits.deBruijn32tab", Rows.laid_math_bits_deBruijn32tab), ("math/bits.deBruijn64tab", Rows.laid_math_bits_deBruijn64tab), ("internal/strconv.uint64pow10", Rows.laid_internal_strconv_uint64pow10), ("strconv.ErrRange", Rows.laid_strconv_ErrRange), ("strconv.ErrSyntax", Rows.laid_strconv_ErrSyntax), ("rollbook/glyph.widths", Rows.laid_rollbook_glyph_widths)]
theorem var_later {W W' : World} {n : String} {g : Nat} {cs : Array Value} (hg : Tryz.prog.globalNamed n = some g) (hv : W.var? Tryz.prog n = some cs) (hne : 0 < cs.size) (hx : Ext W W') : W'.var? Tryz.prog n = some cs := by
  have h0 := World.var?_cell hg hv 0
  rw [Array.getElem?_eq_getElem hne] at h0
  exact var?_below hx hg (World.block_lt_of_cell? _ _ h0) hv
theorem env_of_laid {W : World} (h : laidMetH Tryz.prog theList W) : Env W := by
  rw [MakeChecks.laidMetH_plain _ _ _ (by kernel_rfl)] at h
  have h3 := h.tail.tail
  have h4 := h3.tail
  have h5 := h4.tail
  refine ⟨fun W' hx => ?_, ?_, ?_⟩
  · have ht : Lib.TabIs Tryz.prog W "internal/strconv.uint64pow10" .u64 Lib.pow10Tab := Lib.tabIs_of_head gTab (by kernel_rfl) Tryz.underlying267 Tryz.underlying214 (by kernel_rfl) (by kernel_rfl) h3
    unfold Lib.TabIs at ht ⊢
    exact var_later gTab ht (by decide) hx
  · obtain ⟨a0, s0, hv0, _⟩ := laid_sentinel h5 gSyn gSynT Tryz.underlying150 rowErr Tryz.underlying263 Tryz.underlying265 rfl rfl Tryz.underlying9 cells265 cellsStr
    exact ⟨263, _, fun W' hx => var_later gSyn hv0 (by simp) hx⟩
  · obtain ⟨a0, s0, hv0, _⟩ := laid_sentinel h4 gRng gRngT Tryz.underlying150 rowErr Tryz.underlying263 Tryz.underlying265 rfl rfl Tryz.underlying9 cells265 cellsStr
    exact ⟨263, _, fun W' hx => var_later gRng hv0 (by simp) hx⟩
theorem envw_of_laid {W : World} (h : laidMetH Tryz.prog theList W) : EnvW W := by
  rw [MakeChecks.laidMetH_plain _ _ _ (by kernel_rfl)] at h
  have h6 := h.tail.tail.tail.tail.tail
  intro W' hx
  have ht : Lib.TabIs Tryz.prog W "rollbook/glyph.widths" .u8 (wtab.map fun (i : Nat) => (i : Int)) := Lib.tabIs_of_head gWid (by kernel_rfl) Tryz.underlying278 Tryz.underlying5 (by kernel_rfl) (by kernel_rfl) h6
  unfold Lib.TabIs at ht
  rw [var_later gWid ht (by decide) hx]
  simp [List.map_map, Function.comp_def]
/-- The door's own heap meets the list. -/
theorem door_met (os : Os) (args : Array Value) : laidMetH Tryz.prog theList ((World.doorLaid Tryz.prog 400 os).forCall (fun _ _ => 0) ⟨#[], args, []⟩).memory :=
  laidMetH_of_parts3 (fuel := 8) (laidMet_of_run' 8 (by kernel_rfl) (by kernel_rfl)) (by kernel_rfl) (by kernel_rfl)
end Go.Proofs.YtdbnddmncbjobaaGreatDoor
