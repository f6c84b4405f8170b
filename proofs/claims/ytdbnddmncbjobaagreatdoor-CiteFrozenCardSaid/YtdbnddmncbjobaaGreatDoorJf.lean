/- What the frame of CiteFrozen's row asks of the program, part by part. -/
import Derived.Test.YtdbnddmncbjobaaGreatDoorRows
import Derived.ClosedOfChecked
import Derived.JoinedCond
namespace Go.Proofs.YtdbnddmncbjobaaGreatDoor
open Go

theorem jf_ty : Tryz.checked.prog.types = Tryz.checked.src.types := by kernel_rfl
theorem jf_rest : (Tryz.checked.prog.globals.all (fun g => decide (g.type < Tryz.checked.prog.types.size)) && Tryz.checked.prog.funcs.all (fun f => f.params.all fun t => decide (t < Tryz.checked.prog.types.size))) = true := by kernel_rfl
theorem jf_keys : ClosedOfChecked.keysListB Tryz.checked.prog = true := by kernel_rfl
theorem jf_closed : laidOutB Tryz.checked.prog = true ∧ mapsRowed Tryz.checked.prog = true ∧ Tryz.checked.prog.plainKeys = true := ClosedOfChecked.closed_of_checked Tryz.checked jf_ty jf_rest jf_keys
theorem band {a b : Bool} (h : a = true) (k : b = true) : (a && b) = true := by rw [h, k]; rfl
set_option maxHeartbeats 4000000 in
set_option maxRecDepth 100000 in
theorem jf_frozen : joinedFacts Tryz.checked.prog 12 Tryz.f12 (OpenSpec.ofChange Rows.citeFrozenSpec).bare Rows.citeFrozenRow = true := by
  unfold joinedFacts
  refine band (band (band (band (band (band (band (band (band (band (band (band (band (band (band (band (band (band (band (band (band (band (band (band (band (band (band (band (band (band (band ?c1 ?c2) ?c3) ?c4) ?c5) ?c6) ?c7) ?c8) ?c9) ?c10) ?c11) ?c12) ?c13) ?c14) ?c15) ?c16) ?c17) ?c18) ?c19) ?c20) ?c21) ?c22) ?c23) ?c24) ?c25) ?c26) ?c27) ?c28) ?c29) ?c30) ?c31) ?c32
  case c1 => as_aux_lemma => kernel_rfl
  case c2 => exact jf_closed.1
  case c3 => exact jf_closed.2.1
  case c4 => as_aux_lemma => kernel_rfl
  case c5 => as_aux_lemma => kernel_rfl
  case c6 => as_aux_lemma => kernel_rfl
  case c7 => as_aux_lemma => kernel_rfl
  case c8 => as_aux_lemma => kernel_rfl
  case c9 => as_aux_lemma => kernel_rfl
  case c10 => as_aux_lemma => kernel_rfl
  case c11 => as_aux_lemma => kernel_rfl
  case c12 => as_aux_lemma => kernel_rfl
  case c13 => as_aux_lemma => kernel_rfl
  case c14 => as_aux_lemma => kernel_rfl
  case c15 => as_aux_lemma => kernel_rfl
  case c16 => as_aux_lemma => kernel_rfl
  case c17 => as_aux_lemma => kernel_rfl
  case c18 => as_aux_lemma => kernel_rfl
  case c19 => as_aux_lemma => kernel_rfl
  case c20 => as_aux_lemma => kernel_rfl
  case c21 => as_aux_lemma => kernel_rfl
  case c22 => as_aux_lemma => kernel_rfl
  case c23 => rw [jf_closed.2.2]; rfl
  case c24 => as_aux_lemma => kernel_rfl
  case c25 => as_aux_lemma => kernel_rfl
  case c26 => as_aux_lemma => kernel_rfl
  case c27 => as_aux_lemma => kernel_rfl
  case c28 => as_aux_lemma => kernel_rfl
  case c29 => as_aux_lemma => kernel_rfl
  case c30 => as_aux_lemma => kernel_rfl
  case c31 => as_aux_lemma => kernel_rfl
  case c32 => as_aux_lemma => kernel_rfl
end Go.Proofs.YtdbnddmncbjobaaGreatDoor
