/- Proved: for every argument whose reading is of bulk at most 1048576 the law LexerShows returns true and leaves its arguments as they were; the second form's card over the row that lists the package-level variables, tied.
   Conditions: the row's own list, and the bound on the bulk. The first form is false at texts of some 2^47 letters: what joins them asks for more room than there is. The frame is after the guide's shell and its toy of a row with a list. -/
import Derived.Test.YtbmcplnfamgpcaaDoorCards
import Derived.Test.YtbmcplnfamgpcaaDoorTie
import Derived.Test.YtbmcplnfamgpcaaDoorLaid
import Derived.Test.YtbmcplnfamgpcaaDoorOpen
import Derived.WalkKit
import Derived.OpenShut
import Derived.ChangeOld
import Derived.ChangeArms
import Derived.Below
import Derived.SevenTiedAt
import Derived.SizedLaws
namespace Go.Proofs.YtbmcplnfamgpcaaDoor.pLexerShows
open Go.ChangeShapes Go.WideShapes Go.ChangeAt Go.RowKit Go.Deep
open Go.ChangeMaps (open_string shut_string)

theorem own : ownKnob Tryd.prog.godebug = none := by kernel_rfl
theorem laidOut : laidOutB Tryd.prog = true := by kernel_rfl
theorem reads (os : Os) {H : Type} (enc : TypeId × Value → H) : ∃ places, DataW.whole enc Tryd.prog ((World.doorLaid Tryd.prog 400 os).forCall (fun _ _ => 0) ⟨#[], #[.slice none 0 0], []⟩).memory Tryd.f5.params.toList Rows.lexerShowsSpec.vars false #[Value.slice none 0 0].toList 8 = some ([.nil], [], places) :=
  ⟨[], by kernel_rfl⟩
set_option maxRecDepth 100000 in
theorem lifted (os : Os) (started : os.Started) (H : Type) (enc : TypeId × Value → H) (F : Stop.Interp) :
    ReturnsInHanded {} Tryd.checked os 5 .any ((Rows.OpenSpec.upto Rows.lexerShowsSpec).preRow enc Tryd.prog Tryd.f5 Rows.lexerShowsUptoRow.domain false Rows.lexerShowsUptoRow.laid) (((Rows.OpenSpec.upto Rows.lexerShowsSpec).at F).post enc Tryd.prog Tryd.f5 false true false false) := by
  obtain ⟨places, hx⟩ := reads os enc
  refine returnsInHanded_of_row (C := Tryd.checked) (s := Rows.OpenSpec.upto Rows.lexerShowsSpec) own started (by kernel_rfl) Tryd.func5
    (witness_row_atRef (enc := enc) (C := Tryd.checked) false (World.doorLaid Tryd.prog 400 os) #[.slice none 0 0] rfl (by kernel_rfl) (by kernel_rfl) (by kernel_rfl)
      (OpenSpec.preRow_of_cond 8 hx (by kernel_rfl) (fun k hk => by cases hk; kernel_rfl) (by kernel_rfl) (door_met os _))) ?_
  intro W base args ds gs before hval0 hW _ hcond0 _ hL _ _
  have hcond := hcond0 _ rfl
  clear hcond0
  have hval : ∀ (j : Nat) t v, Tryd.f5.params[j]? = some t → args[j]? = some v → Value.okWide Tryd.prog W .any base t v := hval0
  have hW' := hW
  obtain ⟨p, q, hA0, hV, rfl, hfz, hnd⟩ := hW
  have hA : DataW.TrodAll enc Tryd.prog W 0 (fun _ => true) true Tryd.f5.params.toList args.toList ds p := hA0
  rw [Tryd.params5] at hA hval
  obtain ⟨v0, vs0, d0, ds0, p0, q0, hargs, rfl, rfl, h0, r0⟩ := trodAll_cons hA
  obtain ⟨rfl, rfl, rfl⟩ := trodAll_nil r0
  obtain rfl : args = #[v0] := by cases args; simp_all
  obtain ⟨rfl, rfl⟩ := trodVars_none hV
  have k0 := h0
  have lt0 : ∀ x ∈ p0, x.block < W.heap.size := by obtain ⟨m, hm⟩ := k0; exact DataW.trod_lt m _ _ _ hm
  obtain ⟨A0, len0, cap0, rfl⟩ := okWide_slice Tryd.underlying23 (hval 0 23 v0 rfl rfl)
  obtain ⟨fuel0, hf0⟩ := h0
  obtain ⟨l0, rfl, hcap0, hsl0, htot0⟩ := open_toks hf0
  have hb0 : tot l0 ≤ 10000000 := by
    have h1 : Rows.uptoBulkAll ((d0 :: []) ++ []) ≤ 1048576 := of_decide_eq_true hcond
    simp only [Rows.uptoBulkAll, List.cons_append, List.nil_append] at h1
    have h2 : tot l0 ≤ Rows.uptoBulk d0 := htot0
    omega
  clear hA0 hval0
  refine (lawShows_any A0 cap0 l0 W hcap0 hb0 hsl0 (env_of_laid hL)).mono fun e W' ⟨he, bel⟩ => ?_
  subst he
  exact ⟨_, rfl, _, _, _, [], _, [], hW', trodAll_mk1 (shut_bool Tryd.underlying4 _), (trodAll_cons_mk (Below.trod laidOut (by kernel_rfl) (of_decide_eq_true (by kernel_rfl)) k0 bel lt0) trodAll_mk0), rfl, bel.frame _, fun h => by cases h⟩
theorem said : Rows.LexerShowsUptoSaid :=
  OpenClaim.holds_of_cond 5 Tryd.f5 rfl rfl rfl rfl rfl rfl rfl ⟨rfl, rfl, rfl, rfl, rfl⟩ rfl rfl rfl rfl rfl (by kernel_rfl) Tryd.func5 (by kernel_rfl)
    (of_decide_eq_true (by kernel_rfl)) (by unfold Func.isWrapper; first | (rw [if_pos (by decide +kernel)]; kernel_rfl) | (rw [if_neg (by decide +kernel)]; exact ⟨rfl, rfl⟩))
    (fun os started H enc _ F => by rw [OpenClaim.pre_eq_preRow]; exact lifted os started H enc F)
theorem plain (f : FuncId) (fn : Func) (hf : Tryd.pinned.checked.prog.funcNamed "rollbook/rollbooklaw12.LexerShows" = some f) (hfn : Tryd.pinned.checked.prog.funcs[f]? = some fn) :
    true = Tryd.pinned.checked.prog.looks [] ∧ ∀ (j : Nat) t, fn.params[j]? = some t → Tryd.pinned.checked.prog.wantsStandIn t = false := by
  obtain rfl : f = 5 := Option.some.inj ((show Tryd.prog.funcNamed "rollbook/rollbooklaw12.LexerShows" = some 5 by kernel_rfl).symm.trans hf) |>.symm
  obtain rfl : fn = Tryd.f5 := (Option.some.inj (Tryd.func5.symm.trans hfn)).symm
  refine ⟨by kernel_rfl, fun j t ht => ?_⟩
  rw [Tryd.params5] at ht
  have hm := Array.mem_of_getElem? ht
  have hm2 : t = 23 := by simpa using hm
  subst hm2
  exact (show Tryd.prog.wantsStandIn 23 = false by kernel_rfl)
end Go.Proofs.YtbmcplnfamgpcaaDoor.pLexerShows
namespace Go.Proofs.YtbmcplnfamgpcaaDoor
theorem lexerShows_holds : Rows.LexerShowsUptoCardSaid :=
  Claim7.holds_tied_plain_at .later [] _ _ _ _ pLexerShows.said (fun _ h => by cases h) (by kernel_rfl) (fun _ h => by cases h) lexerShowsUpto_row_tie rfl ⟨rfl, rfl⟩ (by kernel_rfl) rfl pLexerShows.plain (by kernel_rfl)
#print axioms lexerShows_holds
end Go.Proofs.YtbmcplnfamgpcaaDoor
