/- Proved: for every argument the law IndexPlaces returns true and leaves its arguments as they were; the first form's card over the row that lists the package-level variables, tied.
   Conditions: none beyond the row's own list. The frame is after the guide's shell and its toy of a row with a list. -/
import Derived.Test.YtdbnddmncbjobaaGreatDoorCards
import Derived.Test.YtdbnddmncbjobaaGreatDoorTie
import Derived.Test.YtdbnddmncbjobaaGreatDoorJu
import Derived.Test.YtdbnddmncbjobaaGreatDoorQbs
import Derived.SevenTiedAt
import Derived.SizedLaws
namespace Go.Proofs.YtdbnddmncbjobaaGreatDoor.pIndexPlaces
open Go.ChangeShapes Go.WideShapes Go.ChangeAt Go.RowKit
open Go.ChangeMaps (open_string shut_string)

theorem own : ownKnob Tryz.prog.godebug = none := by kernel_rfl
theorem laidOut : laidOutB Tryz.prog = true := by kernel_rfl
theorem reads (os : Os) {H : Type} (enc : TypeId × Value → H) : ∃ places, DataW.whole enc Tryz.prog ((World.doorLaid Tryz.prog 400 os).forCall (fun _ _ => 0) ⟨#[], #[.agg #[.slice none 0 0, .slice none 0 0, .int .i64 0, .int .i64 0]], []⟩).memory Tryz.f15.params.toList Rows.indexPlacesSpec.vars false #[Value.agg #[.slice none 0 0, .slice none 0 0, .int .i64 0, .int .i64 0]].toList 8 = some ([.agg [.nil, .nil, .lit (.int .i64 0), .lit (.int .i64 0)]], [], places) :=
  ⟨[], by kernel_rfl⟩
set_option maxRecDepth 100000 in
theorem lifted (os : Os) (started : os.Started) (H : Type) (enc : TypeId × Value → H) (F : Stop.Interp) :
    ReturnsInHanded {} Tryz.checked os 15 .any ((OpenSpec.ofChange Rows.indexPlacesSpec).preRow enc Tryz.prog Tryz.f15 Rows.indexPlacesRow.domain false Rows.indexPlacesRow.laid) (((OpenSpec.ofChange Rows.indexPlacesSpec).at F).post enc Tryz.prog Tryz.f15 false true false false) := by
  obtain ⟨places, hx⟩ := reads os enc
  refine returnsInHanded_of_row (C := Tryz.checked) (s := OpenSpec.ofChange Rows.indexPlacesSpec) own started (by kernel_rfl) Tryz.func15
    (witness_row_atRef (enc := enc) (C := Tryz.checked) false (World.doorLaid Tryz.prog 400 os) #[.agg #[.slice none 0 0, .slice none 0 0, .int .i64 0, .int .i64 0]] rfl (by kernel_rfl) (by kernel_rfl) (by kernel_rfl)
      (OpenSpec.preRow_of_cond 8 hx (by kernel_rfl) (fun k hk => by cases hk) (by kernel_rfl) (door_met os _))) ?_
  intro W base args ds gs before hval0 hW _ _ _ hL _ _
  have hval : ∀ (j : Nat) t v, Tryz.f15.params[j]? = some t → args[j]? = some v → Value.okWide Tryz.prog W .any base t v := hval0
  have hW' := hW
  obtain ⟨p, q, hAA, hV, rfl, hfz, hnd⟩ := hW
  have hA : DataW.TrodAll enc Tryz.prog W 0 (fun _ => true) true Tryz.f15.params.toList args.toList ds p := hAA
  rw [Tryz.params15] at hA hval
  obtain ⟨v0, vs0, d0, ds0, p0, q0, hargs, rfl, rfl, h0, r0⟩ := trodAll_cons hA
  obtain ⟨rfl, rfl, rfl⟩ := trodAll_nil r0
  obtain rfl : args = #[v0] := by cases args; simp_all
  obtain ⟨rfl, rfl⟩ := trodVars_none hV
  have k0 := h0
  have lt0 : ∀ x ∈ p0, x.block < W.heap.size := by obtain ⟨m, hm⟩ := k0; exact DataW.trod_lt m _ _ _ hm
  obtain ⟨A0, B0, cA0, cB0, l0, m0, br0, tb0, rfl, hA0, hl0, hB0, hm0, hbr0, htb0⟩ := open_case (hval 0 24 v0 rfl rfl) h0
  clear hAA hval0
  refine (places_all A0 B0 cA0 cB0 l0 m0 br0 tb0 W hA0 hl0 hB0 hm0 hbr0 htb0 (env_of_laid hL) (envw_of_laid hL)).mono fun e W' ⟨he, bel⟩ => ?_
  subst he
  exact ⟨_, rfl, _, _, _, [], _, [], hW', trodAll_mk1 (shut_bool Tryz.underlying4 _), (trodAll_cons_mk (Below.trod laidOut (by kernel_rfl) (of_decide_eq_true (by kernel_rfl)) k0 bel lt0) trodAll_mk0), rfl, bel.frame _, fun h => by cases h⟩
theorem said : Rows.IndexPlacesSaid :=
  OpenClaim.holds_of_cond 15 Tryz.f15 rfl rfl rfl rfl rfl rfl rfl ⟨rfl, rfl, rfl, rfl, rfl⟩ rfl rfl rfl rfl rfl (by as_aux_lemma => kernel_rfl) Tryz.func15 jf_places
    (of_decide_eq_true (by kernel_rfl)) (by unfold Func.isWrapper; first | (rw [if_pos (by decide +kernel)]; kernel_rfl) | (rw [if_neg (by decide +kernel)]; exact ⟨rfl, rfl⟩))
    (fun os started H enc _ F => by rw [OpenClaim.pre_eq_preRow]; exact lifted os started H enc F)
theorem plain (f : FuncId) (fn : Func) (hf : Tryz.pinned.checked.prog.funcNamed "rollbook/rollbooklaw31.IndexPlaces" = some f) (hfn : Tryz.pinned.checked.prog.funcs[f]? = some fn) :
    true = Tryz.pinned.checked.prog.looks [] ∧ ∀ (j : Nat) t, fn.params[j]? = some t → Tryz.pinned.checked.prog.wantsStandIn t = false := by
  obtain rfl : f = 15 := Option.some.inj ((show Tryz.prog.funcNamed "rollbook/rollbooklaw31.IndexPlaces" = some 15 by kernel_rfl).symm.trans hf) |>.symm
  obtain rfl : fn = Tryz.f15 := (Option.some.inj (Tryz.func15.symm.trans hfn)).symm
  refine ⟨by kernel_rfl, fun j t ht => ?_⟩
  rw [Tryz.params15] at ht
  have hm := Array.mem_of_getElem? ht
  have hm2 : t = 24 := by simpa using hm
  subst hm2
  exact (show Tryz.prog.wantsStandIn 24 = false by kernel_rfl)
end Go.Proofs.YtdbnddmncbjobaaGreatDoor.pIndexPlaces
namespace Go.Proofs.YtdbnddmncbjobaaGreatDoor
theorem indexPlaces_holds : Rows.IndexPlacesCardSaid :=
  Claim7.holds_tied_plain_at .later [] _ _ _ _ pIndexPlaces.said (fun _ h => by cases h) (by kernel_rfl) (fun _ h => by cases h) indexPlaces_row_tie rfl ⟨rfl, rfl⟩ (by kernel_rfl) rfl pIndexPlaces.plain (by kernel_rfl)
#print axioms indexPlaces_holds
end Go.Proofs.YtdbnddmncbjobaaGreatDoor
