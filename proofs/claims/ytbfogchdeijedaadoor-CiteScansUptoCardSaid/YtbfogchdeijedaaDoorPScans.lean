/- Proved: for all two lists of integers, every string and every number whose reading is of bulk at most 1048576, the law CiteScans returns true and leaves its arguments as they were; the second form's card over the row that lists the five package-level variables, tied.
   Conditions: the row's own list, and the bound on the bulk. The first form is false at strings of some 2^45 slashes, which stand for a word: the reference makes a slice of their parts. The frame is after the guide's shell and its toy of a row with a list. -/
import Derived.Test.YtbfogchdeijedaaDoorCards
import Derived.Test.YtbfogchdeijedaaDoorTie
import Derived.Test.YtbfogchdeijedaaDoorLaid
import Derived.Test.YtbfogchdeijedaaDoorOpenI
import Derived.Test.YtbfogchdeijedaaDoorGw
import Derived.WalkKit
import Derived.OpenShut
import Derived.ChangeOld
import Derived.ChangeArms
import Derived.Below
import Derived.SevenTiedAt
import Derived.SizedLaws
namespace Go.Proofs.YtbfogchdeijedaaDoor.citeScans
open Go.ChangeShapes Go.WideShapes Go.ChangeAt Go.RowKit Go.Deep
open Go.ChangeMaps (open_string shut_string)

theorem own : ownKnob Tryd.prog.godebug = none := by kernel_rfl
theorem laidOut : laidOutB Tryd.prog = true := by kernel_rfl
theorem reads (os : Os) {H : Type} (enc : TypeId × Value → H) : ∃ places, DataW.whole enc Tryd.prog ((World.doorLaid Tryd.prog 400 os).forCall (fun _ _ => 0) ⟨#[], #[.slice none 0 0, .slice none 0 0, .string ⟨#[]⟩, .int .i64 0], []⟩).memory Tryd.f6.params.toList Rows.citeScansSpec.vars false #[Value.slice none 0 0, .slice none 0 0, .string ⟨#[]⟩, .int .i64 0].toList 8 = some ([.nil, .nil, .lit (.string []), .lit (.int .i64 0)], [], places) :=
  ⟨[], by kernel_rfl⟩
set_option maxRecDepth 100000 in
theorem lifted (os : Os) (started : os.Started) (H : Type) (enc : TypeId × Value → H) (F : Stop.Interp) :
    ReturnsInHanded {} Tryd.checked os 6 .any ((Rows.OpenSpec.upto Rows.citeScansSpec).preRow enc Tryd.prog Tryd.f6 Rows.citeScansUptoRow.domain false Rows.citeScansUptoRow.laid) (((Rows.OpenSpec.upto Rows.citeScansSpec).at F).post enc Tryd.prog Tryd.f6 false true false false) := by
  obtain ⟨places, hx⟩ := reads os enc
  refine returnsInHanded_of_row (C := Tryd.checked) (s := Rows.OpenSpec.upto Rows.citeScansSpec) own started (by kernel_rfl) Tryd.func6
    (witness_row_atRef (enc := enc) (C := Tryd.checked) false (World.doorLaid Tryd.prog 400 os) #[.slice none 0 0, .slice none 0 0, .string ⟨#[]⟩, .int .i64 0] rfl (by kernel_rfl) (by kernel_rfl) (by kernel_rfl)
      (OpenSpec.preRow_of_cond 8 hx (by kernel_rfl) (fun k hk => by cases hk; kernel_rfl) (by kernel_rfl) (door_met os _))) ?_
  intro W base args ds gs before hval0 hW _ hcond0 _ hL _ _
  have hcond := hcond0 _ rfl
  clear hcond0
  have hval : ∀ (j : Nat) t v, Tryd.f6.params[j]? = some t → args[j]? = some v → Value.okWide Tryd.prog W .any base t v := hval0
  have hW' := hW
  obtain ⟨p, q, hA0, hV, rfl, hfz, hnd⟩ := hW
  have hA : DataW.TrodAll enc Tryd.prog W 0 (fun _ => true) true Tryd.f6.params.toList args.toList ds p := hA0
  rw [Tryd.params6] at hA hval
  obtain ⟨v0, vs0, d0, ds0, p0, q0, hargs, rfl, rfl, h0, r0⟩ := trodAll_cons hA
  obtain ⟨v1, vs1, d1, ds1, p1, q1, rfl, rfl, rfl, h1, r1⟩ := trodAll_cons r0
  obtain ⟨v2, vs2, d2, ds2, p2, q2, rfl, rfl, rfl, h2, r2⟩ := trodAll_cons r1
  obtain ⟨v3, vs3, d3, ds3, p3, q3, rfl, rfl, rfl, h3, r3⟩ := trodAll_cons r2
  obtain ⟨rfl, rfl, rfl⟩ := trodAll_nil r3
  obtain rfl : args = #[v0, v1, v2, v3] := by cases args; simp_all
  obtain ⟨rfl, rfl⟩ := trodVars_none hV
  have k0 := h0
  have lt0 : ∀ x ∈ p0, x.block < W.heap.size := by obtain ⟨m, hm⟩ := k0; exact DataW.trod_lt m _ _ _ hm
  obtain ⟨A0, len0, cap0, rfl⟩ := okWide_slice Tryd.underlying39 (hval 0 39 v0 rfl rfl)
  obtain ⟨fuel0, hf0⟩ := h0
  obtain ⟨l0, rfl, hsl0, hb0⟩ := open_intl hf0
  have k1 := h1
  have lt1 : ∀ x ∈ p1, x.block < W.heap.size := by obtain ⟨m, hm⟩ := k1; exact DataW.trod_lt m _ _ _ hm
  obtain ⟨A1, len1, cap1, rfl⟩ := okWide_slice Tryd.underlying39 (hval 1 39 v1 rfl rfl)
  obtain ⟨fuel1, hf1⟩ := h1
  obtain ⟨l1, rfl, hsl1, hb1⟩ := open_intl hf1
  have k2 := h2
  have lt2 : ∀ x ∈ p2, x.block < W.heap.size := by obtain ⟨m, hm⟩ := k2; exact DataW.trod_lt m _ _ _ hm
  obtain ⟨raw, rfl, hraw⟩ : ∃ s : ByteArray, v2 = .string s ∧ s.size ≤ 4000000 := by
    obtain ⟨s, rfl, hd, _, _⟩ := open_string Tryd.underlying9 (hval 2 9 v2 rfl rfl) h2
    refine ⟨s, rfl, ?_⟩
    have h1 : Rows.uptoBulkAll ((d0 :: d1 :: d2 :: d3 :: []) ++ []) ≤ 1048576 := of_decide_eq_true hcond
    rw [hd] at h1
    simp only [Rows.uptoBulkAll, Rows.uptoBulk, List.cons_append, List.nil_append] at h1
    have h3 : s.data.toList.length = s.size := by simp
    omega
  have k3 := h3
  have lt3 : ∀ x ∈ p3, x.block < W.heap.size := by obtain ⟨m, hm⟩ := k3; exact DataW.trod_lt m _ _ _ hm
  obtain ⟨n, rfl, hn⟩ : ∃ n : Int, v3 = .int .i64 n ∧ -9223372036854775808 ≤ n ∧ n ≤ 9223372036854775807 := by
    obtain ⟨n, rfl, _, _, hw⟩ := open_int Tryd.underlying3 (hval 3 3 v3 rfl rfl) h3
    exact ⟨n, rfl, bounds_i64 hw⟩
  clear hA0 hval0
  refine (scans_any A0 A1 cap0 cap1 l0 l1 raw n W (env_of_laid hL) hraw hn hb0 hsl0 hb1 hsl1).mono fun e W' ⟨he, bel⟩ => ?_
  subst he
  exact ⟨_, rfl, _, _, _, [], _, [], hW', trodAll_mk1 (shut_bool Tryd.underlying4 _), (trodAll_cons_mk (Below.trod laidOut (by kernel_rfl) (of_decide_eq_true (by kernel_rfl)) k0 bel lt0) (trodAll_cons_mk (Below.trod laidOut (by kernel_rfl) (of_decide_eq_true (by kernel_rfl)) k1 bel lt1) (trodAll_cons_mk (Below.trod laidOut (by kernel_rfl) (of_decide_eq_true (by kernel_rfl)) k2 bel lt2) (trodAll_cons_mk (Below.trod laidOut (by kernel_rfl) (of_decide_eq_true (by kernel_rfl)) k3 bel lt3) trodAll_mk0)))), rfl, bel.frame _, fun h => by cases h⟩
theorem said : Rows.CiteScansUptoSaid :=
  OpenClaim.holds_of_cond 6 Tryd.f6 rfl rfl rfl rfl rfl rfl rfl ⟨rfl, rfl, rfl, rfl, rfl⟩ rfl rfl rfl rfl rfl (by kernel_rfl) Tryd.func6 (by kernel_rfl)
    (of_decide_eq_true (by kernel_rfl)) (by unfold Func.isWrapper; first | (rw [if_pos (by decide +kernel)]; kernel_rfl) | (rw [if_neg (by decide +kernel)]; exact ⟨rfl, rfl⟩))
    (fun os started H enc _ F => by rw [OpenClaim.pre_eq_preRow]; exact lifted os started H enc F)
theorem plain (f : FuncId) (fn : Func) (hf : Tryd.pinned.checked.prog.funcNamed "rollbook/rollbooklaw29.CiteScans" = some f) (hfn : Tryd.pinned.checked.prog.funcs[f]? = some fn) :
    true = Tryd.pinned.checked.prog.looks [] ∧ ∀ (j : Nat) t, fn.params[j]? = some t → Tryd.pinned.checked.prog.wantsStandIn t = false := by
  obtain rfl : f = 6 := Option.some.inj ((show Tryd.prog.funcNamed "rollbook/rollbooklaw29.CiteScans" = some 6 by kernel_rfl).symm.trans hf) |>.symm
  obtain rfl : fn = Tryd.f6 := (Option.some.inj (Tryd.func6.symm.trans hfn)).symm
  refine ⟨by kernel_rfl, fun j t ht => ?_⟩
  rw [Tryd.params6] at ht
  have hm := Array.mem_of_getElem? ht
  have hm2 : t = 39 ∨ t = 39 ∨ t = 9 ∨ t = 3 := by simpa using hm
  rcases hm2 with rfl | rfl | rfl | rfl
  · exact (show Tryd.prog.wantsStandIn 39 = false by kernel_rfl)
  · exact (show Tryd.prog.wantsStandIn 39 = false by kernel_rfl)
  · exact (show Tryd.prog.wantsStandIn 9 = false by kernel_rfl)
  · exact (show Tryd.prog.wantsStandIn 3 = false by kernel_rfl)
end Go.Proofs.YtbfogchdeijedaaDoor.citeScans
namespace Go.Proofs.YtbfogchdeijedaaDoor
theorem citeScans_holds : Rows.CiteScansUptoCardSaid :=
  Claim7.holds_tied_plain_at .later [] _ _ _ _ citeScans.said (fun _ h => by cases h) (by kernel_rfl) (fun _ h => by cases h) citeScansUpto_row_tie rfl ⟨rfl, rfl⟩ (by kernel_rfl) rfl citeScans.plain (by kernel_rfl)
#print axioms citeScans_holds
end Go.Proofs.YtbfogchdeijedaaDoor
