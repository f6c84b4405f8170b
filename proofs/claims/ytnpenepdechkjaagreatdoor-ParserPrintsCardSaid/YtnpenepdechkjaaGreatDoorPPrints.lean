/- Proved: for every argument the law ParserPrints returns true and leaves its arguments as they were; the first form's card over the row that lists the package-level variables, tied.
   Conditions: none beyond the row's own list. The frame is after the guide's shell and its toy of a row with a list. -/
import Derived.Test.YtnpenepdechkjaaGreatDoorCards
import Derived.Test.YtnpenepdechkjaaGreatDoorTie
import Derived.Test.YtnpenepdechkjaaGreatDoorLaid
import Derived.Test.YtnpenepdechkjaaGreatDoorOi
import Derived.Test.YtnpenepdechkjaaGreatDoorMi
import Derived.WalkKit
import Derived.OpenShut
import Derived.ChangeOld
import Derived.ChangeArms
import Derived.Below
import Derived.SevenTiedAt
import Derived.SizedLaws
namespace Go.Proofs.YtnpenepdechkjaaGreatDoor.pParserPrints
open Go.ChangeShapes Go.WideShapes Go.ChangeAt Go.RowKit Go.Deep
open Go.ChangeMaps (open_string shut_string)

theorem own : ownKnob Tryz.prog.godebug = none := by kernel_rfl
theorem laidOut : laidOutB Tryz.prog = true := by kernel_rfl
theorem reads (os : Os) {H : Type} (enc : TypeId × Value → H) : ∃ places, DataW.whole enc Tryz.prog ((World.doorLaid Tryz.prog 400 os).forCall (fun _ _ => 0) ⟨#[], #[.slice none 0 0], []⟩).memory Tryz.f5.params.toList Rows.parserPrintsSpec.vars false #[Value.slice none 0 0].toList 8 = some ([.nil], [], places) :=
  ⟨[], by kernel_rfl⟩
set_option maxRecDepth 100000 in
theorem lifted (os : Os) (started : os.Started) (H : Type) (enc : TypeId × Value → H) (F : Stop.Interp) :
    ReturnsInHanded {} Tryz.checked os 5 .any ((OpenSpec.ofChange Rows.parserPrintsSpec).preRow enc Tryz.prog Tryz.f5 Rows.parserPrintsRow.domain false Rows.parserPrintsRow.laid) (((OpenSpec.ofChange Rows.parserPrintsSpec).at F).post enc Tryz.prog Tryz.f5 false true false false) := by
  obtain ⟨places, hx⟩ := reads os enc
  refine returnsInHanded_of_row (C := Tryz.checked) (s := OpenSpec.ofChange Rows.parserPrintsSpec) own started (by kernel_rfl) Tryz.func5
    (witness_row_atRef (enc := enc) (C := Tryz.checked) false (World.doorLaid Tryz.prog 400 os) #[.slice none 0 0] rfl (by kernel_rfl) (by kernel_rfl) (by kernel_rfl)
      (OpenSpec.preRow_of_cond 8 hx (by kernel_rfl) (fun k hk => by cases hk) (by kernel_rfl) (door_met os _))) ?_
  intro W base args ds gs before hval0 hW _ _ _ hL hSh _
  have hval : ∀ (j : Nat) t v, Tryz.f5.params[j]? = some t → args[j]? = some v → Value.okWide Tryz.prog W .any base t v := hval0
  have hW' := hW
  obtain ⟨p, q, hA0, hV, rfl, hfz, hnd⟩ := hW
  have hA : DataW.TrodAll enc Tryz.prog W 0 (fun _ => true) true Tryz.f5.params.toList args.toList ds p := hA0
  rw [Tryz.params5] at hA hval
  obtain ⟨v0, vs0, d0, ds0, p0, q0, hargs, rfl, rfl, h0, r0⟩ := trodAll_cons hA
  obtain ⟨rfl, rfl, rfl⟩ := trodAll_nil r0
  obtain rfl : args = #[v0] := by cases args; simp_all
  obtain ⟨rfl, rfl⟩ := trodVars_none hV
  have k0 := h0
  have lt0 : ∀ x ∈ p0, x.block < W.heap.size := by obtain ⟨m, hm⟩ := k0; exact DataW.trod_lt m _ _ _ hm
  obtain ⟨A0, len0, cap0, rfl⟩ := okWide_slice Tryz.underlying35 (hval 0 35 v0 rfl rfl)
  obtain ⟨fuel0, hf0⟩ := h0
  obtain ⟨l0, rfl, hc0, hd0, hsl0, hb0⟩ := open_intl hf0
  clear hA0 hval0
  refine (prints_any A0 cap0 l0 W hc0 hd0 hb0 hsl0 (env_of_laid hL (ml_of_shape hSh))).mono fun e W' ⟨he, bel⟩ => ?_
  subst he
  exact ⟨_, rfl, _, _, _, [], _, [], hW', trodAll_mk1 (shut_bool Tryz.underlying4 _), (trodAll_cons_mk (Below.trod laidOut (by kernel_rfl) (of_decide_eq_true (by kernel_rfl)) k0 bel lt0) trodAll_mk0), rfl, bel.frame _, fun h => by cases h⟩
theorem said : Rows.ParserPrintsSaid :=
  OpenClaim.holds_of_cond 5 Tryz.f5 rfl rfl rfl rfl rfl rfl rfl ⟨rfl, rfl, rfl, rfl, rfl⟩ rfl rfl rfl rfl rfl (by kernel_rfl) Tryz.func5 (by kernel_rfl)
    (of_decide_eq_true (by kernel_rfl)) (by unfold Func.isWrapper; first | (rw [if_pos (by decide +kernel)]; kernel_rfl) | (rw [if_neg (by decide +kernel)]; exact ⟨rfl, rfl⟩))
    (fun os started H enc _ F => by rw [OpenClaim.pre_eq_preRow]; exact lifted os started H enc F)
theorem plain (f : FuncId) (fn : Func) (hf : Tryz.pinned.checked.prog.funcNamed "rollbook/rollbooklaw13.ParserPrints" = some f) (hfn : Tryz.pinned.checked.prog.funcs[f]? = some fn) :
    true = Tryz.pinned.checked.prog.looks [] ∧ ∀ (j : Nat) t, fn.params[j]? = some t → Tryz.pinned.checked.prog.wantsStandIn t = false := by
  obtain rfl : f = 5 := Option.some.inj ((show Tryz.prog.funcNamed "rollbook/rollbooklaw13.ParserPrints" = some 5 by kernel_rfl).symm.trans hf) |>.symm
  obtain rfl : fn = Tryz.f5 := (Option.some.inj (Tryz.func5.symm.trans hfn)).symm
  refine ⟨by kernel_rfl, fun j t ht => ?_⟩
  rw [Tryz.params5] at ht
  have hm := Array.mem_of_getElem? ht
  have hm2 : t = 35 := by simpa using hm
  subst hm2
  exact (show Tryz.prog.wantsStandIn 35 = false by kernel_rfl)
end Go.Proofs.YtnpenepdechkjaaGreatDoor.pParserPrints
namespace Go.Proofs.YtnpenepdechkjaaGreatDoor
theorem parserPrints_holds : Rows.ParserPrintsCardSaid :=
  Claim7.holds_tied_plain_at .later [] _ _ _ _ pParserPrints.said (fun _ h => by cases h) (by kernel_rfl) (fun _ h => by cases h) parserPrints_row_tie rfl ⟨rfl, rfl⟩ (by kernel_rfl) rfl pParserPrints.plain (by kernel_rfl)
#print axioms parserPrints_holds
end Go.Proofs.YtnpenepdechkjaaGreatDoor
