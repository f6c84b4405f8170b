/- Proved: for every citation and every number, the law CiteTexts returns true and leaves its arguments as they were; the card over the row that lists the five package-level variables, tied.
   Conditions: none beyond the row's own list. The frame is after the guide's shell and its toy of a row with a list. -/
import Derived.Test.YtbfogchdeijedaaDoorCards
import Derived.Test.YtbfogchdeijedaaDoorTie
import Derived.Test.YtbfogchdeijedaaDoorLaid
import Derived.Test.YtbfogchdeijedaaDoorTexts
import Derived.WalkKit
import Derived.OpenShut
import Derived.ChangeOld
import Derived.ChangeArms
import Derived.Below
import Derived.SevenTiedAt
namespace Go.Proofs.YtbfogchdeijedaaDoor
open Go Go.RowKit Go.WideShapes Go.ChangeShapes

theorem fld {fs : Array Field} {i t o : Nat} (h : (fs[i]?).map (fun f => (f.type, f.offset)) = some (t, o)) : ∃ f, fs[i]? = some f ∧ f.type = t ∧ f.offset = o := by
  obtain ⟨f, h1, h2⟩ := Option.map_eq_some_iff.1 h
  simp only [Prod.mk.injEq] at h2
  exact ⟨f, h1, h2.1, h2.2⟩
theorem cells3 : Tryd.prog.cellsOf 3 = 1 := by kernel_rfl
theorem cells23 : Tryd.prog.cellsOf 23 = 2 := by kernel_rfl
theorem cells25 : Tryd.prog.cellsOf 25 = 4 := by kernel_rfl
theorem size23 : (Tryd.prog.fieldsOf 23).size = 2 := by kernel_rfl
theorem size25 : (Tryd.prog.fieldsOf 25).size = 3 := by kernel_rfl
theorem str23 : Tryd.prog.underlying 23 = some (.struct (Tryd.prog.fieldsOf 23)) := by kernel_rfl
theorem str25 : Tryd.prog.underlying 25 = some (.struct (Tryd.prog.fieldsOf 25)) := by kernel_rfl
section
variable {H : Type} {enc : TypeId × Value → H} {w : World} {base : Nat} {spare : Nat → Bool} {held : Bool}
theorem open_field {t : TypeId} {cs : List Value} {x : DataW H × List MemPlace} {fuel : Nat} {n : Nat} (hs : Tryd.prog.underlying t = some (.struct (Tryd.prog.fieldsOf t))) (hn : (Tryd.prog.fieldsOf t).size = n) (h : DataW.trod enc Tryd.prog w base spare held fuel t cs = some x) :
    cs.length = Tryd.prog.cellsOf t ∧ ∀ i ft o, i < n → ((Tryd.prog.fieldsOf t)[i]?).map (fun f => (f.type, f.offset)) = some (ft, o) → ∃ m y, DataW.trod enc Tryd.prog w base spare held m ft ((cs.drop o).take (Tryd.prog.cellsOf ft)) = some y := by
  obtain ⟨xs, m, _, _, hlen, hxl, hf⟩ := DataW.trod_struct hs h
  refine ⟨hlen, fun i ft o hi he => ?_⟩
  obtain ⟨f, h1, h2, h3⟩ := fld he
  have h4 := hf i f h1
  rw [h2, h3] at h4
  exact ⟨m, _, h4.trans (List.getElem?_eq_getElem (by rw [hxl, hn]; exact hi))⟩
theorem int_of {m : Nat} {cs : List Value} {y : DataW H × List MemPlace} (h : DataW.trod enc Tryd.prog w base spare held m 3 cs = some y) : ∃ n : Int, cs = [.int .i64 n] ∧ -9223372036854775808 ≤ n ∧ n ≤ 9223372036854775807 := by
  obtain ⟨n, e, _, hw⟩ := DataW.trod_int Tryd.underlying3 h
  exact ⟨n, e, bounds_i64 hw⟩
set_option maxRecDepth 100000 in
theorem open_cite {r : Reach} {b0 : Nat} {v : Value} {d : DataW H} {p : List MemPlace} (hv : Value.okWide Tryd.prog w r b0 25 v) (h : DataW.Trod enc Tryd.prog w base spare held 25 v d p) :
    ∃ c : Ct, v = c.val ∧ (-9223372036854775808 ≤ c.br ∧ c.br ≤ 9223372036854775807) ∧ (-9223372036854775808 ≤ c.li ∧ c.li ≤ 9223372036854775807) := by
  obtain ⟨cs, rfl, hsz⟩ := okWide_struct str25 hv
  obtain ⟨fuel, hf⟩ := h
  have hc : (Value.agg cs).cells.toList = cs.toList := by simp [Value.cells]
  rw [hc] at hf
  obtain ⟨hl, hff⟩ := open_field str25 size25 hf
  rw [cells25] at hl
  obtain ⟨l⟩ := cs
  match l, hl with
  | [c0, c1, c2, c3], _ =>
    obtain ⟨_, _, g0⟩ := hff 0 3 0 (by omega) (by kernel_rfl)
    obtain ⟨_, _, g1⟩ := hff 1 23 1 (by omega) (by kernel_rfl)
    obtain ⟨_, _, g2⟩ := hff 2 3 3 (by omega) (by kernel_rfl)
    rw [cells3] at g0 g2
    rw [cells23] at g1
    obtain ⟨_, gg⟩ := open_field str23 size23 g1
    obtain ⟨_, _, k0⟩ := gg 0 3 0 (by omega) (by kernel_rfl)
    obtain ⟨_, _, k1⟩ := gg 1 3 1 (by omega) (by kernel_rfl)
    rw [cells3] at k0 k1
    obtain ⟨n0, e0, b0⟩ := int_of g0
    obtain ⟨n1, e1, _⟩ := int_of k0
    obtain ⟨n2, e2, _⟩ := int_of k1
    obtain ⟨n3, e3, b3⟩ := int_of g2
    simp at e0 e1 e2 e3
    subst e0 e1 e2 e3
    exact ⟨⟨n0, n1, n2, n3⟩, rfl, b0, b3⟩
end
end Go.Proofs.YtbfogchdeijedaaDoor
namespace Go.Proofs.YtbfogchdeijedaaDoor.citeTexts
open Go.ChangeShapes Go.WideShapes Go.ChangeAt Go.RowKit

theorem own : ownKnob Tryd.prog.godebug = none := by kernel_rfl
theorem laidOut : laidOutB Tryd.prog = true := by kernel_rfl
theorem reads (os : Os) {H : Type} (enc : TypeId × Value → H) : ∃ places, DataW.whole enc Tryd.prog ((World.doorLaid Tryd.prog 400 os).forCall (fun _ _ => 0) ⟨#[], #[.agg #[.int .i64 0, .int .i64 0, .int .i64 0, .int .i64 0], .int .i64 0], []⟩).memory Tryd.f3.params.toList Rows.citeTextsSpec.vars false #[Value.agg #[.int .i64 0, .int .i64 0, .int .i64 0, .int .i64 0], .int .i64 0].toList 8 = some ([.agg [.lit (.int .i64 0), .agg [.lit (.int .i64 0), .lit (.int .i64 0)], .lit (.int .i64 0)], .lit (.int .i64 0)], [], places) :=
  ⟨[], by kernel_rfl⟩
set_option maxRecDepth 100000 in
theorem lifted (os : Os) (started : os.Started) (H : Type) (enc : TypeId × Value → H) (F : Stop.Interp) :
    ReturnsInHanded {} Tryd.checked os 3 .any ((OpenSpec.ofChange Rows.citeTextsSpec).preRow enc Tryd.prog Tryd.f3 Rows.citeTextsRow.domain false Rows.citeTextsRow.laid) (((OpenSpec.ofChange Rows.citeTextsSpec).at F).post enc Tryd.prog Tryd.f3 false true false false) := by
  obtain ⟨places, hx⟩ := reads os enc
  refine returnsInHanded_of_row (C := Tryd.checked) (s := OpenSpec.ofChange Rows.citeTextsSpec) own started (by kernel_rfl) Tryd.func3
    (witness_row_atRef (enc := enc) (C := Tryd.checked) false (World.doorLaid Tryd.prog 400 os) #[.agg #[.int .i64 0, .int .i64 0, .int .i64 0, .int .i64 0], .int .i64 0] rfl (by kernel_rfl) (by kernel_rfl) (by kernel_rfl)
      (OpenSpec.preRow_of_cond 8 hx (by kernel_rfl) (fun k hk => by cases hk) (by kernel_rfl) (door_met os _))) ?_
  intro W base args ds gs before hval0 hW _ _ _ hL _ _
  have hval : ∀ (j : Nat) t v, Tryd.f3.params[j]? = some t → args[j]? = some v → Value.okWide Tryd.prog W .any base t v := hval0
  have hW' := hW
  obtain ⟨p, q, hA0, hV, rfl, hfz, hnd⟩ := hW
  have hA : DataW.TrodAll enc Tryd.prog W 0 (fun _ => true) true Tryd.f3.params.toList args.toList ds p := hA0
  rw [Tryd.params3] at hA hval
  obtain ⟨v0, vs0, d0, ds0, p0, q0, hargs, rfl, rfl, h0, r0⟩ := trodAll_cons hA
  obtain ⟨v1, vs1, d1, ds1, p1, q1, rfl, rfl, rfl, h1, r1⟩ := trodAll_cons r0
  obtain ⟨rfl, rfl, rfl⟩ := trodAll_nil r1
  obtain rfl : args = #[v0, v1] := by cases args; simp_all
  obtain ⟨rfl, rfl⟩ := trodVars_none hV
  have k0 := h0
  have lt0 : ∀ x ∈ p0, x.block < W.heap.size := by obtain ⟨m, hm⟩ := k0; exact DataW.trod_lt m _ _ _ hm
  obtain ⟨c, rfl, hc⟩ := open_cite (hval 0 25 v0 rfl rfl) h0
  have k1 := h1
  have lt1 : ∀ x ∈ p1, x.block < W.heap.size := by obtain ⟨m, hm⟩ := k1; exact DataW.trod_lt m _ _ _ hm
  obtain ⟨n, rfl, hn⟩ : ∃ n : Int, v1 = .int .i64 n ∧ -9223372036854775808 ≤ n ∧ n ≤ 9223372036854775807 := by
    obtain ⟨n, rfl, _, _, hw⟩ := open_int Tryd.underlying3 (hval 1 3 v1 rfl rfl) h1
    exact ⟨n, rfl, bounds_i64 hw⟩
  clear hA0 hval0
  refine (texts_any c n W (env_of_laid hL) hc hn).mono fun e W' ⟨he, bel⟩ => ?_
  subst he
  exact ⟨_, rfl, _, _, _, [], _, [], hW', trodAll_mk1 (shut_bool Tryd.underlying4 _), (trodAll_cons_mk (Below.trod laidOut (by kernel_rfl) (of_decide_eq_true (by kernel_rfl)) k0 bel lt0) (trodAll_cons_mk (Below.trod laidOut (by kernel_rfl) (of_decide_eq_true (by kernel_rfl)) k1 bel lt1) trodAll_mk0)), rfl, bel.frame _, fun h => by cases h⟩
theorem said : Rows.CiteTextsSaid :=
  OpenClaim.holds_of_cond 3 Tryd.f3 rfl rfl rfl rfl rfl rfl rfl ⟨rfl, rfl, rfl, rfl, rfl⟩ rfl rfl rfl rfl rfl (by kernel_rfl) Tryd.func3 (by kernel_rfl)
    (of_decide_eq_true (by kernel_rfl)) (by unfold Func.isWrapper; first | (rw [if_pos (by decide +kernel)]; kernel_rfl) | (rw [if_neg (by decide +kernel)]; exact ⟨rfl, rfl⟩))
    (fun os started H enc _ F => by rw [OpenClaim.pre_eq_preRow]; exact lifted os started H enc F)
theorem plain (f : FuncId) (fn : Func) (hf : Tryd.pinned.checked.prog.funcNamed "rollbook/rollbooklaw29.CiteTexts" = some f) (hfn : Tryd.pinned.checked.prog.funcs[f]? = some fn) :
    true = Tryd.pinned.checked.prog.looks [] ∧ ∀ (j : Nat) t, fn.params[j]? = some t → Tryd.pinned.checked.prog.wantsStandIn t = false := by
  obtain rfl : f = 3 := Option.some.inj ((show Tryd.prog.funcNamed "rollbook/rollbooklaw29.CiteTexts" = some 3 by kernel_rfl).symm.trans hf) |>.symm
  obtain rfl : fn = Tryd.f3 := (Option.some.inj (Tryd.func3.symm.trans hfn)).symm
  refine ⟨by kernel_rfl, fun j t ht => ?_⟩
  rw [Tryd.params3] at ht
  have hm := Array.mem_of_getElem? ht
  have hm2 : t = 25 ∨ t = 3 := by simpa using hm
  rcases hm2 with rfl | rfl
  · exact (show Tryd.prog.wantsStandIn 25 = false by kernel_rfl)
  · exact (show Tryd.prog.wantsStandIn 3 = false by kernel_rfl)
end Go.Proofs.YtbfogchdeijedaaDoor.citeTexts
namespace Go.Proofs.YtbfogchdeijedaaDoor
theorem citeTexts_holds : Rows.CiteTextsCardSaid :=
  Claim7.holds_tied_plain_at .later [] _ _ _ _ citeTexts.said (fun _ h => by cases h) (by kernel_rfl) (fun _ h => by cases h) citeTexts_row_tie rfl ⟨rfl, rfl⟩ (by kernel_rfl) rfl citeTexts.plain (by kernel_rfl)
#print axioms citeTexts_holds
end Go.Proofs.YtbfogchdeijedaaDoor
