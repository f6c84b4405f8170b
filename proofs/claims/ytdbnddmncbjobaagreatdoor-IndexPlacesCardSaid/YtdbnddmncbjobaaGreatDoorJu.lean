/- What the frame of IndexPlaces' row asks of the program, part by part. -/
import Derived.Test.YtdbnddmncbjobaaGreatDoorJf
namespace Go.Proofs.YtdbnddmncbjobaaGreatDoor
open Go

set_option maxHeartbeats 4000000 in
set_option maxRecDepth 100000 in
theorem jf_places : joinedFacts Tryz.checked.prog 15 Tryz.f15 (OpenSpec.ofChange Rows.indexPlacesSpec).bare Rows.indexPlacesRow = true := by
  unfold joinedFacts
  refine band (band (band (band (band (band (band (band (band (band (band (band (band (band (band (band (band (band (band (band (band (band (band (band (band (band (band (band (band (band (band ?c1 ?c2) ?c3) ?c4) ?c5) ?c6) ?c7) ?c8) ?c9) ?c10) ?c11) ?c12) ?c13) ?c14) ?c15) ?c16) ?c17) ?c18) ?c19) ?c20) ?c21) ?c22) ?c23) ?c24) ?c25) ?c26) ?c27) ?c28) ?c29) ?c30) ?c31) ?c32
  case c1 => as_aux_lemma => kernel_rfl
  case c2 => exact jf_closed.1
  case c3 => exact jf_closed.2.1
  case c4 => as_aux_lemma => kernel_rfl
  case c5 => as_aux_lemma => kernel_rfl
  case c6 => as_aux_lemma => kernel_rfl
  case c7 => as_aux_lemma => kernel_rfl
  case c8 => as_aux_lemma => kernel_rfl
  case c9 => as_aux_lemma => kernel_rfl
  case c10 => as_aux_lemma => kernel_rfl
  case c11 => as_aux_lemma => kernel_rfl
  case c12 => as_aux_lemma => kernel_rfl
  case c13 => as_aux_lemma => kernel_rfl
  case c14 => as_aux_lemma => kernel_rfl
  case c15 => as_aux_lemma => kernel_rfl
  case c16 => as_aux_lemma => kernel_rfl
  case c17 => as_aux_lemma => kernel_rfl
  case c18 => as_aux_lemma => kernel_rfl
  case c19 => as_aux_lemma => kernel_rfl
  case c20 => as_aux_lemma => kernel_rfl
  case c21 => as_aux_lemma => kernel_rfl
  case c22 => as_aux_lemma => kernel_rfl
  case c23 => rw [jf_closed.2.2]; rfl
  case c24 => as_aux_lemma => kernel_rfl
  case c25 => as_aux_lemma => kernel_rfl
  case c26 => as_aux_lemma => kernel_rfl
  case c27 => as_aux_lemma => kernel_rfl
  case c28 => as_aux_lemma => kernel_rfl
  case c29 => as_aux_lemma => kernel_rfl
  case c30 => as_aux_lemma => kernel_rfl
  case c31 => as_aux_lemma => kernel_rfl
  case c32 => as_aux_lemma => kernel_rfl
end Go.Proofs.YtdbnddmncbjobaaGreatDoor
