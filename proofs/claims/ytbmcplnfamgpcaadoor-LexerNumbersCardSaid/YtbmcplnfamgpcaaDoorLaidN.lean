/- What the list gives besides: the table of powers of ten. -/
import Derived.Test.YtbmcplnfamgpcaaDoorLaid
import Derived.Test.YtbmcplnfamgpcaaDoorPr
namespace Go.Proofs.YtbmcplnfamgpcaaDoor
open Go Go.RowKit

theorem gTab : Tryd.prog.globalNamed "internal/strconv.uint64pow10" = some 3 := by kernel_rfl
theorem env_of_laid2 {W : World} (h : laidMetH Tryd.prog theList W) : EnvT W ∧ Tab W := by
  refine ⟨env_of_laid h, fun W' hx => ?_⟩
  rw [MakeChecks.laidMetH_plain _ _ _ (by kernel_rfl)] at h
  have ht : Lib.TabIs Tryd.prog W "internal/strconv.uint64pow10" .u64 Lib.pow10Tab := Lib.tabIs_of_head gTab (by kernel_rfl) Tryd.underlying112 Tryd.underlying86 (by kernel_rfl) (by kernel_rfl) h.tail.tail
  unfold Lib.TabIs at ht ⊢
  exact var_later gTab ht (by decide) hx
end Go.Proofs.YtbmcplnfamgpcaaDoor
