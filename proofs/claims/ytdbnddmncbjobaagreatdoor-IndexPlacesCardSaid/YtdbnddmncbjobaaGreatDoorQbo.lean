/- The example of the chapter: a book in plain Lean; word, example: walked. -/
import Derived.Test.YtdbnddmncbjobaaGreatDoorQbn
namespace Go.Proofs.YtdbnddmncbjobaaGreatDoor
section
open Go Go.RowKit
attribute [local go_sem] Oper.semAt_some

/-- A block of elements, as a row. -/
theorem row_block {β : Type} {k : Lay β} {W : World} {P : Nat → Prop} {g : Nat} {T : TypeId} {cur : Array Value} {ds : List (Cs k.sz)} {xs : List β} (hb : W.heap[g]? = some (.cells cur T (0, 0))) (hc : cur.toList = gcells ccf ds) (hl : ds.length = xs.length) (hP : P g)
    (hr : ∀ (i : Nat) (d : Cs k.sz) (x : β), ds[i]? = some d → xs[i]? = some x → k.rep W P x d.1) : k.row W P (some ⟨g, 0, none⟩) xs.length xs := by
  have hg := lt_of_block hb
  refine ⟨ds, rfl, hl, ⟨hl.symm, fun _ => ⟨g, 0, rfl, hg, fun i d hd j u hu => ?_⟩⟩, fun x hx => by injection hx with hx; subst hx; exact ⟨hP, hg⟩, hr⟩
  have hj : j < k.sz := by rw [← ccf_len d]; exact (List.getElem?_eq_some_iff.1 hu).1
  have h1 := gcells_at ccf_len ds i d hd j hj
  rw [hu, ← hc] at h1
  rw [Nat.zero_add]
  exact cell_of hb (by rw [← Array.getElem?_toList]; exact h1)
def wdC (x : Wd) : Cs kWd.sz := ⟨[.string ⟨x.s.toArray⟩, .string ⟨x.key.toArray⟩, .int .i64 x.tb, .int .i64 x.nt], rfl, fun u hu => by simp only [List.mem_cons, List.not_mem_nil, or_false] at hu; rcases hu with rfl | rfl | rfl | rfl <;> rfl⟩
theorem wd_block {W : World} {P : Nat → Prop} {g : Nat} {T : TypeId} {cur : Array Value} (xs : List Wd) (hb : W.heap[g]? = some (.cells cur T (0, 0))) (hc : cur.toList = gcells ccf (xs.map wdC)) (hP : P g) : kWd.row W P (some ⟨g, 0, none⟩) xs.length xs :=
  row_block hb hc (by simp) hP fun i d x hd hx => by
    rw [List.getElem?_map, hx] at hd
    obtain rfl := Option.some.inj hd
    exact kWd_rep.2 rfl
def slC (A : Option Addr) (n c : Nat) : Cs kWs.sz := ⟨[.slice A n c], rfl, fun u hu => by simp only [List.mem_singleton] at hu; subst hu; rfl⟩
/-- The words of the example. -/
def exSee : Wd := ⟨[115, 101, 101], [], 0, 0⟩
def exSm1 : Wd := ⟨[83, 109, 105, 116, 104], [115, 109, 105, 116, 104], 1, 1⟩
def exAnd : Wd := ⟨[97, 110, 100], [], 0, 0⟩
def exSm : Wd := ⟨[83, 109, 105, 116, 104], [115, 109, 105, 116, 104], 1, 0⟩
def exJo : Wd := ⟨[74, 111, 110, 101, 115], [106, 111, 110, 101, 115], 1, 0⟩
def exT : Tx := ⟨[[exSee, exSm1], [exAnd, exSm, exJo]], [[exSm]]⟩
def ex0 : Bk := ⟨500, 10, []⟩
def exB : Bk := addP ex0 0 0 exT
theorem exOk : ∀ w ∈ [exSee, exSm1, exAnd, exSm, exJo], OkW w := by unfold OkW; decide
theorem exT_ok : OkT exT := by
  refine ⟨⟨?_, ?_⟩, by decide, by decide, by decide, ?_, by decide⟩
  · decide
  · intro p hp w hw
    simp only [exT, List.mem_cons, List.not_mem_nil, or_false] at hp
    rcases hp with rfl | rfl <;> exact exOk w (by revert hw; simp only [List.mem_cons, List.not_mem_nil, or_false]; rintro (h | h) <;> simp [h])
  · intro p hp w hw
    simp only [exT, List.mem_cons, List.not_mem_nil, or_false] at hp
    subst hp
    simp only [List.mem_cons, List.not_mem_nil, or_false] at hw
    subst hw
    exact ⟨exOk exSm (by simp), rfl⟩
theorem ex0_ok : OkB ex0 0 1 := ⟨by decide, by decide, by decide, by decide, by decide, fun x hx => (by cases hx), fun x hx => (by cases hx), .nil⟩
theorem exB_ok : OkB exB 1 1 := ex0_ok.add (by omega) 0 exT_ok fun y hy => by cases hy
theorem ex_add : addE ex0 0 0 exT = 0 := by decide +kernel
def exPl (l : Int) : Ct := ⟨3, 1, 0, l⟩
def exWant : Tb := [([106, 111, 110, 101, 115], [exPl 2]), ([115, 109, 105, 116, 104], [exPl 1, exPl 2, exPl 3])]
def exSealed : Tb := [([106, 111, 110, 101, 115], [exPl 2]), ([115, 109, 105, 116, 104], [exPl 2, exPl 3])]
def exSeal : Sea := ⟨0, 0, 1, 2, 4⟩
theorem ex_items : itemsB 3 1 [] exB = exWant ∧ itemsB 3 1 [exSeal] exB = exSealed ∧ itemsB 3 0 [] exB = [] := by decide +kernel
theorem ex_find : findP exWant [106, 111, 110, 101, 115] = some [exPl 2] ∧ findP exWant [74, 111, 110, 101, 115] = none ∧ mrgP exWant exSealed = exWant := by decide +kernel
set_option maxRecDepth 100000 in
theorem word31_any (s key : List UInt8) (nt : Int) (w : World) (n : Nat) (hn : key.length = n) : Calls Tryz.prog 121 #[.string ⟨s.toArray⟩, .string ⟨key.toArray⟩, .int .i64 nt] w fun e w' => e = .returned (.agg #[.string ⟨s.toArray⟩, .string ⟨key.toArray⟩, .int .i64 (min (n : Int) 1), .int .i64 nt]) ∧ Ext w w' := by
  have hx : Ext w (w.alloc (.cells #[.string ⟨s.toArray⟩, .string ⟨key.toArray⟩, .int .i64 (min (n : Int) 1), .int .i64 nt] 60)) := (Ext.refl w).alloc _
  have HX := Lib.hid hx
  obtain ⟨m, hm⟩ : ∃ m, min (n : Int) 1 = m := ⟨_, rfl⟩
  have hsz : (⟨key.toArray⟩ : ByteArray).size = n := by rw [← hn]; simp [ByteArray.size]
  clear hx
  go_enter Tryz.func121, Tryz.ntmps121
  go_wp2_with fail
  obtain ⟨Y, hY⟩ : ∃ Y, w.alloc (.cells #[.string ⟨s.toArray⟩, .string ⟨key.toArray⟩, .int .i64 m, .int .i64 nt] 60) = Y := ⟨_, rfl⟩
  have hB : Y.heap[w.heap.size]? = some (.cells #[.string ⟨s.toArray⟩, .string ⟨key.toArray⟩, .int .i64 m, .int .i64 nt] 60 (0, 0)) := by rw [← hY]; exact heap_alloc_new _ _
  have h9 := HX.out
  rw [hm, hY] at h9
  rw [hY, hm]
  have q0 := cell_of hB (i := 0) rfl
  have q1 := cell_of hB (i := 1) rfl
  have q2 := cell_of hB (i := 2) rfl
  have q3 := cell_of hB (i := 3) rfl
  refine bodyPost_ret (v := .agg #[.string ⟨s.toArray⟩, .string ⟨key.toArray⟩, .int .i64 m, .int .i64 nt]) (by simp [results, Tryz.results121, go_sem, q0, q1, q2, q3]) rfl ?_
  exact ⟨rfl, h9⟩
theorem w31See (w : World) : Calls Tryz.prog 121 #[.string ⟨#[115, 101, 101]⟩, .string ⟨#[]⟩, .int .i64 0] w fun e w' => e = .returned (.agg #[.string ⟨#[115, 101, 101]⟩, .string ⟨#[]⟩, .int .i64 0, .int .i64 0]) ∧ Ext w w' := word31_any [115, 101, 101] [] 0 w 0 rfl
theorem w31Sm1 (w : World) : Calls Tryz.prog 121 #[.string ⟨#[83, 109, 105, 116, 104]⟩, .string ⟨#[115, 109, 105, 116, 104]⟩, .int .i64 1] w fun e w' => e = .returned (.agg #[.string ⟨#[83, 109, 105, 116, 104]⟩, .string ⟨#[115, 109, 105, 116, 104]⟩, .int .i64 1, .int .i64 1]) ∧ Ext w w' := word31_any [83, 109, 105, 116, 104] [115, 109, 105, 116, 104] 1 w 5 rfl
theorem w31And (w : World) : Calls Tryz.prog 121 #[.string ⟨#[97, 110, 100]⟩, .string ⟨#[]⟩, .int .i64 0] w fun e w' => e = .returned (.agg #[.string ⟨#[97, 110, 100]⟩, .string ⟨#[]⟩, .int .i64 0, .int .i64 0]) ∧ Ext w w' := word31_any [97, 110, 100] [] 0 w 0 rfl
theorem w31Sm (w : World) : Calls Tryz.prog 121 #[.string ⟨#[83, 109, 105, 116, 104]⟩, .string ⟨#[115, 109, 105, 116, 104]⟩, .int .i64 0] w fun e w' => e = .returned (.agg #[.string ⟨#[83, 109, 105, 116, 104]⟩, .string ⟨#[115, 109, 105, 116, 104]⟩, .int .i64 1, .int .i64 0]) ∧ Ext w w' := word31_any [83, 109, 105, 116, 104] [115, 109, 105, 116, 104] 0 w 5 rfl
theorem w31Jo (w : World) : Calls Tryz.prog 121 #[.string ⟨#[74, 111, 110, 101, 115]⟩, .string ⟨#[106, 111, 110, 101, 115]⟩, .int .i64 0] w fun e w' => e = .returned (.agg #[.string ⟨#[74, 111, 110, 101, 115]⟩, .string ⟨#[106, 111, 110, 101, 115]⟩, .int .i64 1, .int .i64 0]) ∧ Ext w w' := word31_any [74, 111, 110, 101, 115] [106, 111, 110, 101, 115] 0 w 5 rfl
set_option maxHeartbeats 4000000 in
set_option maxRecDepth 100000 in
theorem example31_any (w : World) (hL : EnvW w) : Calls Tryz.prog 63 #[] w fun e w' => ∃ A n c, e = .returned (.tuple #[.agg #[.int .i64 500, .int .i64 10, .slice A n c], .bool true]) ∧ n ≤ c ∧ kSe.row w' (fun _ => True) A n exB.secs ∧ Ext w w' := by
  obtain ⟨z0, hz0⟩ : ∃ z0, w.heap.size = z0 := ⟨_, rfl⟩
  obtain ⟨w0, hw0⟩ : ∃ w0, w.alloc (.cells #[.int .i64 0, .int .i64 0, .slice none 0 0] 27) = w0 := ⟨_, rfl⟩
  have hx0 : Ext w w0 := by rw [← hw0]; exact (Ext.refl w).alloc _
  have hB0 : w0.heap[z0]? = some (.cells #[.int .i64 0, .int .i64 0, .slice none 0 0] 27 (0, 0)) := by rw [← hw0, ← hz0]; exact heap_alloc_new _ _
  have HX0 := Lib.hid hx0
  have HB0 := Lib.hid hB0
  have HL := Lib.hid hL
  have HZ0 := Lib.hid hz0
  clear hx0 hB0 hL
  go_enter Tryz.func63, Tryz.ntmps63
  go_upto_region 1 with (fail)
  clear hw0 hz0
  go_wp2_with fail
  refine (w31See w0).mono ?_
  rintro e wa ⟨rfl, hxa⟩
  have HXA := Lib.hid hxa
  clear hxa
  go_wp2_with fail
  refine (w31Sm1 wa).mono ?_
  rintro e wb ⟨rfl, hxb⟩
  have HXB := Lib.hid (HXA.out.trans hxb)
  clear hxb
  obtain ⟨g1, hg1⟩ : ∃ g1, wb.heap.size = g1 := ⟨_, rfl⟩
  obtain ⟨w3, hw3⟩ : ∃ w3, wb.alloc (.cells #[.string ⟨#[115, 101, 101]⟩, .string ⟨#[]⟩, .int .i64 0, .int .i64 0, .string ⟨#[83, 109, 105, 116, 104]⟩, .string ⟨#[115, 109, 105, 116, 104]⟩, .int .i64 1, .int .i64 1] 60) = w3 := ⟨_, rfl⟩
  have hxw3 : Ext wb w3 := by rw [← hw3]; exact (Ext.refl wb).alloc _
  have hbw3 : w3.heap[g1]? = some (.cells #[.string ⟨#[115, 101, 101]⟩, .string ⟨#[]⟩, .int .i64 0, .int .i64 0, .string ⟨#[83, 109, 105, 116, 104]⟩, .string ⟨#[115, 109, 105, 116, 104]⟩, .int .i64 1, .int .i64 1] 60 (0, 0)) := by rw [← hw3, ← hg1]; exact heap_alloc_new _ _
  have HX3 := Lib.hid (HXB.out.trans hxw3)
  have HG1 := Lib.hid hbw3
  clear hxw3 hbw3
  go_wp2_with fail
  refine (w31And w3).mono ?_
  rintro e wc ⟨rfl, hxc⟩
  clear hg1 hw3
  go_wp2_with fail
  refine (w31Sm wc).mono ?_
  rintro e wd ⟨rfl, hxd⟩
  go_wp2_with fail
  refine (w31Jo wd).mono ?_
  rintro e we ⟨rfl, hxe⟩
  have HX3E := Lib.hid (hxc.trans (hxd.trans hxe))
  clear hxc hxd hxe
  obtain ⟨g2, hg2⟩ : ∃ g2, we.heap.size = g2 := ⟨_, rfl⟩
  obtain ⟨w4, hw4⟩ : ∃ w4, we.alloc (.cells #[.string ⟨#[97, 110, 100]⟩, .string ⟨#[]⟩, .int .i64 0, .int .i64 0, .string ⟨#[83, 109, 105, 116, 104]⟩, .string ⟨#[115, 109, 105, 116, 104]⟩, .int .i64 1, .int .i64 0, .string ⟨#[74, 111, 110, 101, 115]⟩, .string ⟨#[106, 111, 110, 101, 115]⟩, .int .i64 1, .int .i64 0] 60) = w4 := ⟨_, rfl⟩
  have hxw4 : Ext we w4 := by rw [← hw4]; exact (Ext.refl we).alloc _
  have hbw4 : w4.heap[g2]? = some (.cells #[.string ⟨#[97, 110, 100]⟩, .string ⟨#[]⟩, .int .i64 0, .int .i64 0, .string ⟨#[83, 109, 105, 116, 104]⟩, .string ⟨#[115, 109, 105, 116, 104]⟩, .int .i64 1, .int .i64 0, .string ⟨#[74, 111, 110, 101, 115]⟩, .string ⟨#[106, 111, 110, 101, 115]⟩, .int .i64 1, .int .i64 0] 60 (0, 0)) := by rw [← hw4, ← hg2]; exact heap_alloc_new _ _
  obtain ⟨g3, hg3⟩ : ∃ g3, w4.heap.size = g3 := ⟨_, rfl⟩
  obtain ⟨w5, hw5⟩ : ∃ w5, w4.alloc (.cells #[.slice (some ⟨g1, 0, none⟩) 2 2, .slice (some ⟨g2, 0, none⟩) 3 3] 54) = w5 := ⟨_, rfl⟩
  have hxw5 : Ext w4 w5 := by rw [← hw5]; exact (Ext.refl w4).alloc _
  have hbw5 : w5.heap[g3]? = some (.cells #[.slice (some ⟨g1, 0, none⟩) 2 2, .slice (some ⟨g2, 0, none⟩) 3 3] 54 (0, 0)) := by rw [← hw5, ← hg3]; exact heap_alloc_new _ _
  have HX35 := Lib.hid (HX3E.out.trans (hxw4.trans hxw5))
  have HG2 := Lib.hid ((hxw5.block _ (lt_of_block hbw4)).trans hbw4)
  have HG3 := Lib.hid hbw5
  clear hxw4 hxw5 hbw4 hbw5
  go_wp2_with fail
  refine (w31Sm w5).mono ?_
  rintro e wf ⟨rfl, hxf⟩
  have HX5F := Lib.hid hxf
  clear hxf hg2 hw4 hg3 hw5
  obtain ⟨g4, hg4⟩ : ∃ g4, wf.heap.size = g4 := ⟨_, rfl⟩
  obtain ⟨w6, hw6⟩ : ∃ w6, wf.alloc (.cells #[.string ⟨#[83, 109, 105, 116, 104]⟩, .string ⟨#[115, 109, 105, 116, 104]⟩, .int .i64 1, .int .i64 0] 60) = w6 := ⟨_, rfl⟩
  have hxw6 : Ext wf w6 := by rw [← hw6]; exact (Ext.refl wf).alloc _
  have hbw6 : w6.heap[g4]? = some (.cells #[.string ⟨#[83, 109, 105, 116, 104]⟩, .string ⟨#[115, 109, 105, 116, 104]⟩, .int .i64 1, .int .i64 0] 60 (0, 0)) := by rw [← hw6, ← hg4]; exact heap_alloc_new _ _
  obtain ⟨g5, hg5⟩ : ∃ g5, w6.heap.size = g5 := ⟨_, rfl⟩
  obtain ⟨w7, hw7⟩ : ∃ w7, w6.alloc (.cells #[.slice (some ⟨g4, 0, none⟩) 1 1] 54) = w7 := ⟨_, rfl⟩
  have hxw7 : Ext w6 w7 := by rw [← hw7]; exact (Ext.refl w6).alloc _
  have hbw7 : w7.heap[g5]? = some (.cells #[.slice (some ⟨g4, 0, none⟩) 1 1] 54 (0, 0)) := by rw [← hw7, ← hg5]; exact heap_alloc_new _ _
  obtain ⟨z2, hz2⟩ : ∃ z2, w7.heap.size = z2 := ⟨_, rfl⟩
  obtain ⟨w8, hw8⟩ : ∃ w8, w7.alloc (.cells #[.slice (some ⟨g3, 0, none⟩) 2 2, .slice (some ⟨g5, 0, none⟩) 1 1] 53) = w8 := ⟨_, rfl⟩
  have hxw8 : Ext w7 w8 := by rw [← hw8]; exact (Ext.refl w7).alloc _
  have hbw8 : w8.heap[z2]? = some (.cells #[.slice (some ⟨g3, 0, none⟩) 2 2, .slice (some ⟨g5, 0, none⟩) 1 1] 53 (0, 0)) := by rw [← hw8, ← hz2]; exact heap_alloc_new _ _
  have hx58 : Ext w5 w8 := HX5F.out.trans (hxw6.trans (hxw7.trans hxw8))
  have h1 := ((HX35.out.trans hx58).block _ (lt_of_block HG1.out)).trans HG1.out
  have h2 := (hx58.block _ (lt_of_block HG2.out)).trans HG2.out
  have h3 := (hx58.block _ (lt_of_block HG3.out)).trans HG3.out
  have h4 := ((hxw7.trans hxw8).block _ (lt_of_block hbw6)).trans hbw6
  have h5 := (hxw8.block _ (lt_of_block hbw7)).trans hbw7
  have r1 : kWd.row w8 (fun _ => True) (some ⟨g1, 0, none⟩) 2 [exSee, exSm1] := wd_block (W := w8) [exSee, exSm1] h1 rfl trivial
  have r2 : kWd.row w8 (fun _ => True) (some ⟨g2, 0, none⟩) 3 [exAnd, exSm, exJo] := wd_block (W := w8) [exAnd, exSm, exJo] h2 rfl trivial
  have r4 : kWd.row w8 (fun _ => True) (some ⟨g4, 0, none⟩) 1 [exSm] := wd_block (W := w8) [exSm] h4 rfl trivial
  have r3 : kWs.row w8 (fun _ => True) (some ⟨g3, 0, none⟩) 2 exT.paras := row_block (k := kWs) (ds := [slC (some ⟨g1, 0, none⟩) 2 2, slC (some ⟨g2, 0, none⟩) 3 3]) (xs := exT.paras) h3 rfl rfl trivial fun i d x hd hx => by
    match i with
    | 0 =>
      simp only [List.getElem?_cons_zero, Option.some.injEq, exT] at hd hx
      subst hd hx
      exact kWs_rep.2 ⟨_, 2, rfl, Nat.le_refl _, r1⟩
    | 1 =>
      simp only [List.getElem?_cons_succ, List.getElem?_cons_zero, Option.some.injEq, exT] at hd hx
      subst hd hx
      exact kWs_rep.2 ⟨_, 3, rfl, Nat.le_refl _, r2⟩
    | i + 2 => simp at hd
  have r5 : kWs.row w8 (fun _ => True) (some ⟨g5, 0, none⟩) 1 exT.notes := row_block (k := kWs) (ds := [slC (some ⟨g4, 0, none⟩) 1 1]) (xs := exT.notes) h5 rfl rfl trivial fun i d x hd hx => by
    match i with
    | 0 =>
      simp only [List.getElem?_cons_zero, Option.some.injEq, exT] at hd hx
      subst hd hx
      exact kWs_rep.2 ⟨_, 1, rfl, Nat.le_refl _, r4⟩
    | i + 1 => simp at hd
  have HX08 := Lib.hid ((HX3.out.trans HX35.out).trans hx58)
  have HADD := Lib.hid (add_any (fun _ => True) (fun _ => True) w8 ex0 0 0 exT none (some ⟨g3, 0, none⟩) (some ⟨g5, 0, none⟩) 0 0 2 2 1 1 (ex0_ok.bkI (by omega) (by omega) (by omega)) (by decide) (fun _ => exB_ok.bkI (by omega) (by omega) (by omega)) exT_ok (Lay.row_nil _ _ _) r3 r5 (HL.out.ext (HX0.out.trans HX08.out)))
  rw [ex_add] at HADD
  have e0 := cell_of hbw8 (i := 0) rfl
  have e1 := cell_of hbw8 (i := 1) rfl
  clear hx58 h1 h2 h3 h4 h5 r1 r2 r3 r4 r5 hxw6 hxw7 hxw8 hbw6 hbw7 hbw8
  have HAD := Lib.hid (show Calls Tryz.prog 37 #[.agg #[.int .i64 500, .int .i64 10, .slice none 0 0], .int .i64 0, .int .i64 0, .agg #[.slice (some ⟨g3, 0, none⟩) 2 2, .slice (some ⟨g5, 0, none⟩) 1 1]] w8 (OpPost w8 0 500 10 exB.secs) from HADD.out)
  clear HADD
  go_upto_region 3 with (first | (go_at_call 37; refine (HAD.out).mono ?_; rintro e wg ⟨hxg, hres⟩; rcases hres with ⟨hne, _⟩ | ⟨_, A9, n9, c9, rfl, hnc9, hr9⟩; exact absurd rfl hne; have HXG := Lib.hid hxg; have HR9 := Lib.hid hr9; clear hxg hr9))
  obtain ⟨z3, hz3⟩ : ∃ z3, wg.heap.size = z3 := ⟨_, rfl⟩
  obtain ⟨w9, hw9⟩ : ∃ w9, wg.alloc (.cells #[.int .i64 500, .int .i64 10, .slice A9 n9 c9] 27) = w9 := ⟨_, rfl⟩
  have hx9 : Ext wg w9 := by rw [← hw9]; exact (Ext.refl wg).alloc _
  have hb9 : w9.heap[z3]? = some (.cells #[.int .i64 500, .int .i64 10, .slice A9 n9 c9] 27 (0, 0)) := by rw [← hw9, ← hz3]; exact heap_alloc_new _ _
  rw [hw9, hz3]
  have hx09 := HX08.out.trans (HXG.out.trans hx9)
  have hB09 := (hx09.block _ (lt_of_block HB0.out)).trans HB0.out
  have HX09 := Lib.hid (HX0.out.trans hx09)
  have HR10 := Lib.hid (Lay.row_ext HR9.out hx9)
  have d0 := cell_of hb9 (i := 0) rfl
  have d1 := cell_of hb9 (i := 1) rfl
  have d2 := cell_of hb9 (i := 2) rfl
  have k0 := cell_of hB09 (i := 0) rfl
  have k1 := cell_of hB09 (i := 1) rfl
  have k2 := cell_of hB09 (i := 2) rfl
  have f0 := frozen_of hB09 0
  have f1 := frozen_of hB09 1
  have f2 := frozen_of hB09 2
  have HB09 := Lib.hid hB09
  clear hx9 hb9 hx09 hB09 hw9 hz3 e0 e1 hg4 hw6 hg5 hw7 hz2 hw8
  go_wp2_with fail
  obtain ⟨Y, hY⟩ : ∃ Y, ((w9.setCell ⟨z0, 0, none⟩ (.int .i64 500)).setCell ⟨z0, 1, none⟩ (.int .i64 10)).setCell ⟨z0, 2, none⟩ (.slice A9 n9 c9) = Y := ⟨_, rfl⟩
  have hb : (((w9.setCell ⟨z0, 0, none⟩ (.int .i64 500)).setCell ⟨z0, 1, none⟩ (.int .i64 10)).setCell ⟨z0, 2, none⟩ (.slice A9 n9 c9)).heap[z0]? = some (.cells #[.int .i64 500, .int .i64 10, .slice A9 n9 c9] 27 (0, 0)) := heap_setCell_same _ z0 2 _ 27 _ (heap_setCell_same _ z0 1 _ 27 _ (heap_setCell_same _ z0 0 _ 27 _ HB09.out))
  have hz : w.heap.size ≤ z0 := by rw [HZ0.out]; exact Nat.le_refl _
  have hxY : Ext w (((w9.setCell ⟨z0, 0, none⟩ (.int .i64 500)).setCell ⟨z0, 1, none⟩ (.int .i64 10)).setCell ⟨z0, 2, none⟩ (.slice A9 n9 c9)) := ((HX09.out.setCell (p := ⟨z0, 0, none⟩) hz _).setCell (p := ⟨z0, 1, none⟩) hz _).setCell (p := ⟨z0, 2, none⟩) hz _
  have hrY : kSe.row (((w9.setCell ⟨z0, 0, none⟩ (.int .i64 500)).setCell ⟨z0, 1, none⟩ (.int .i64 10)).setCell ⟨z0, 2, none⟩ (.slice A9 n9 c9)) (fun _ => True) A9 n9 exB.secs := Lay.row_mono (Lay.row_keep HR10.out (by simp) fun j hj _ => by
    have hne : j ≠ z0 := by have := HX08.out.lt; have := lt_of_block HB0.out; omega
    rw [heap_setCell_other _ ⟨z0, 2, none⟩ j _ hne, heap_setCell_other _ ⟨z0, 1, none⟩ j _ hne, heap_setCell_other _ ⟨z0, 0, none⟩ j _ hne]) fun _ _ _ => trivial
  rw [hY] at hb hxY hrY ⊢
  have q0 := cell_of hb (i := 0) rfl
  have q1 := cell_of hb (i := 1) rfl
  have q2 := cell_of hb (i := 2) rfl
  refine bodyPost_ret (v := .tuple #[.agg #[.int .i64 500, .int .i64 10, .slice A9 n9 c9], .bool true]) (by simp [results, Tryz.results63, go_sem, q0, q1, q2]) rfl ?_
  exact ⟨A9, n9, c9, rfl, hnc9, hrY, hxY⟩
end
section
open Go Go.RowKit
attribute [local go_sem] Oper.semAt_some

set_option maxRecDepth 100000 in
theorem at31_any (l : Int) (w : World) : Calls Tryz.prog 64 #[.int .i64 l] w fun e w' => e = .returned (.agg #[.int .i64 3, .int .i64 1, .int .i64 0, .int .i64 l]) ∧ Ext w w' := by
  have hx : Ext w (w.alloc (.cells #[.int .i64 3, .int .i64 1, .int .i64 0, .int .i64 l] 69)) := (Ext.refl w).alloc _
  have HX := Lib.hid hx
  clear hx
  go_enter Tryz.func64, Tryz.ntmps64
  go_wp2_with fail
  obtain ⟨Y, hY⟩ : ∃ Y, w.alloc (.cells #[.int .i64 3, .int .i64 1, .int .i64 0, .int .i64 l] 69) = Y := ⟨_, rfl⟩
  have hB : Y.heap[w.heap.size]? = some (.cells #[.int .i64 3, .int .i64 1, .int .i64 0, .int .i64 l] 69 (0, 0)) := by rw [← hY]; exact heap_alloc_new _ _
  have h9 := HX.out
  rw [hY] at h9
  rw [hY]
  have q0 := cell_of hB (i := 0) rfl
  have q1 := cell_of hB (i := 1) rfl
  have q2 := cell_of hB (i := 2) rfl
  have q3 := cell_of hB (i := 3) rfl
  refine bodyPost_ret (v := .agg #[.int .i64 3, .int .i64 1, .int .i64 0, .int .i64 l]) (by simp [results, Tryz.results64, go_sem, q0, q1, q2, q3]) rfl ?_
  exact ⟨rfl, h9⟩
theorem ct_block {W : World} {P : Nat → Prop} {g : Nat} {T : TypeId} {cur : Array Value} (xs : List Ct) (hb : W.heap[g]? = some (.cells cur T (0, 0))) (hc : cur.toList = gcells ccf (xs.map ctC)) (hP : P g) : kCt.row W P (some ⟨g, 0, none⟩) xs.length xs :=
  row_block hb hc (by simp) hP fun i d x hd hx => by
    rw [List.getElem?_map, hx] at hd
    obtain rfl := Option.some.inj hd
    exact kCt_rep.2 rfl
def itC (x : ItV) : Cs kIt.sz := ⟨itCs x, rfl, itCs_one x⟩
theorem it2_block {W : World} {g : Nat} {T : TypeId} {k1 k2 : List UInt8} {A1 A2 : Option Addr} {n1 n2 : Nat} {l1 l2 : List Ct} (hb : W.heap[g]? = some (.cells #[.string ⟨k1.toArray⟩, .slice A1 n1 n1, .string ⟨k2.toArray⟩, .slice A2 n2 n2] T (0, 0))) (r1 : kCt.row W (fun _ => True) A1 n1 l1) (r2 : kCt.row W (fun _ => True) A2 n2 l2) : kIt.row W (fun _ => True) (some ⟨g, 0, none⟩) 2 [(k1, l1), (k2, l2)] :=
  row_block (k := kIt) (ds := [itC (k1, A1, n1, n1), itC (k2, A2, n2, n2)]) (xs := [(k1, l1), (k2, l2)]) hb rfl rfl trivial fun i d x hd hx => by
    match i with
    | 0 =>
      simp only [List.getElem?_cons_zero, Option.some.injEq] at hd hx
      subst hd hx
      exact kIt_rep.2 ⟨A1, n1, n1, rfl, Nat.le_refl _, r1⟩
    | 1 =>
      simp only [List.getElem?_cons_succ, List.getElem?_cons_zero, Option.some.injEq] at hd hx
      subst hd hx
      exact kIt_rep.2 ⟨A2, n2, n2, rfl, Nat.le_refl _, r2⟩
    | i + 2 => simp at hd
def seaC (x : Sea) : Cs kSea.sz := ⟨seaCs x, rfl, fun u hu => by simp only [seaCs, List.mem_cons, List.not_mem_nil, or_false] at hu; rcases hu with rfl | rfl | rfl | rfl | rfl <;> rfl⟩
theorem seaC_row {W : World} {g : Nat} (hb : W.heap[g]? = some (.cells #[.int .i64 0, .int .i64 0, .int .i64 1, .int .i64 2, .int .i64 4] 48 (0, 0))) : kSea.row W (fun _ => True) (some ⟨g, 0, none⟩) 1 [exSeal] :=
  row_block (k := kSea) (ds := [seaC exSeal]) (xs := [exSeal]) hb rfl rfl trivial fun i d x hd hx => by
    match i with
    | 0 =>
      simp only [List.getElem?_cons_zero, Option.some.injEq] at hd hx
      subst hd hx
      rfl
    | i + 1 => simp at hd
theorem ex_len : (hits 3 1 [] exB).length ≤ 10 ∧ (hits 3 1 [exSeal] exB).length ≤ 10 ∧ (hits 3 0 [] exB).length ≤ 10 := by decide +kernel
/-- Items at the example. -/
theorem ex_run (w : World) (hL : EnvW w) (A : Option Addr) (n c : Nat) (hr : kSe.row w (fun _ => True) A n exB.secs) (tb : Int) (ls : List Sea) (A2 : Option Addr) (n2 c2 : Nat) (hsl : kSea.row w (fun _ => True) A2 n2 ls) (hgr : ∀ s ∈ ls, 0 ≤ s.gr ∧ s.gr ≤ 15) (hn2 : n2 ≤ 10) (T : Tb) (hT : itemsB 3 tb ls exB = T) (hl : (hits 3 tb ls exB).length ≤ 10) :
    Calls Tryz.prog 19 #[.agg #[.int .i64 500, .int .i64 10, .slice A n c], .int .i64 3, .int .i64 tb, .slice A2 n2 c2] w fun e w' => ∃ A1 n1 c1, e = .returned (.slice A1 n1 c1) ∧ TbV w' A1 n1 c1 T 10 ∧ Ext w w' := by
  refine (iitems_any (fun _ => True) (fun _ => True) w exB 1 1 3 tb ls A A2 n c n2 c2 exB_ok (by omega) (by omega) (by omega) hr hsl (by omega) hgr hL).mono ?_
  rintro e w' ⟨A1, n1, c1, rfl, h1, h2⟩
  refine ⟨A1, n1, c1, rfl, ?_, h2⟩
  rw [← hT]
  exact TbV.mono h1 hl
set_option maxHeartbeats 8000000 in
set_option maxRecDepth 100000 in
theorem lives31_any (w : World) (hL : EnvW w) : Calls Tryz.prog 21 #[] w fun e w' => e = .returned (.bool true) ∧ Ext w w' := by
  have HL := Lib.hid hL
  have HEX := Lib.hid (example31_any w hL)
  clear hL
  go_enter Tryz.func21, Tryz.ntmps21
  go_wp2_with fail
  refine (HEX.out).mono ?_
  rintro e wa ⟨A, n, c, rfl, hnc, hr, hxa⟩
  clear HEX
  obtain ⟨z1, hz1⟩ : ∃ z1, wa.heap.size = z1 := ⟨_, rfl⟩
  obtain ⟨w1, hw1⟩ : ∃ w1, wa.alloc (.cells #[.int .i64 500, .int .i64 10, .slice A n c] 27) = w1 := ⟨_, rfl⟩
  have hxw1 : Ext wa w1 := by rw [← hw1]; exact (Ext.refl wa).alloc _
  have hbw1 : w1.heap[z1]? = some (.cells #[.int .i64 500, .int .i64 10, .slice A n c] 27 (0, 0)) := by rw [← hw1, ← hz1]; exact heap_alloc_new _ _
  have HX1 := Lib.hid (hxa.trans hxw1)
  have HB1 := Lib.hid hbw1
  have HR1 := Lib.hid (Lay.row_ext hr hxw1)
  have HZC := Lib.hid (fun X (hX : Ext w1 X) => (show X.cell? ⟨z1, 0, none⟩ = some (.int .i64 500) ∧ X.cell? ⟨z1, 1, none⟩ = some (.int .i64 10) ∧ X.cell? ⟨z1, 2, none⟩ = some (.slice A n c) from
    have h9 := (hX.block _ (lt_of_block hbw1)).trans hbw1
    ⟨cell_of h9 (i := 0) rfl, cell_of h9 (i := 1) rfl, cell_of h9 (i := 2) rfl⟩))
  have HRUN := Lib.hid (fun X (hX : Ext w1 X) => ex_run X (HL.out.ext (HX1.out.trans hX)) A n c (Lay.row_ext HR1.out hX))
  obtain ⟨d0, d1, d2⟩ := HZC.out w1 (Ext.refl _)
  clear hxa hxw1 hbw1 hr
  go_wp2_with fail
  refine (HRUN.out w1 (Ext.refl _) 1 [] none 0 0 (Lay.row_nil _ _ _) (fun s hs => by cases hs) (by omega) exWant ex_items.1 ex_len.1).mono ?_
  rintro e w2 ⟨A1, n1, c1, rfl, hT1, hx2⟩
  have HT1 := Lib.hid hT1
  have HX2 := Lib.hid hx2
  clear hT1 hx2 d0 d1 d2 hz1 hw1
  obtain ⟨d0, d1, d2⟩ := HZC.out w2 HX2.out
  obtain ⟨g1, hg1⟩ : ∃ g1, w2.heap.size = g1 := ⟨_, rfl⟩
  obtain ⟨w3, hw3⟩ : ∃ w3, w2.alloc (.cells #[.int .i64 0, .int .i64 0, .int .i64 1, .int .i64 2, .int .i64 4] 48) = w3 := ⟨_, rfl⟩
  have hxw3 : Ext w2 w3 := by rw [← hw3]; exact (Ext.refl w2).alloc _
  have hbw3 : w3.heap[g1]? = some (.cells #[.int .i64 0, .int .i64 0, .int .i64 1, .int .i64 2, .int .i64 4] 48 (0, 0)) := by rw [← hw3, ← hg1]; exact heap_alloc_new _ _
  have HX3 := Lib.hid (HX2.out.trans hxw3)
  have HS3 := Lib.hid (seaC_row hbw3)
  have HXW3 := Lib.hid hxw3
  clear hxw3 hbw3
  go_wp2_with fail
  refine (HRUN.out w3 HX3.out 1 [exSeal] (some ⟨g1, 0, none⟩) 1 1 HS3.out (fun s hs => by simp only [List.mem_singleton] at hs; subst hs; decide) (by omega) exSealed ex_items.2.1 ex_len.2.1).mono ?_
  rintro e w4 ⟨A2, n2, c2, rfl, hT2, hx4⟩
  have HT2 := Lib.hid hT2
  have HX24 := Lib.hid (HXW3.out.trans hx4)
  clear hT2 hx4 d0 d1 d2 hg1 hw3
  go_wp2_with fail
  refine (ifind_any w4 exWant [106, 111, 110, 101, 115] A1 n1 c1 10 (HT1.out.ext HX24.out) (by omega)).mono ?_
  rintro e w5 ⟨A3, n3, c3, rfl, hnc3, hr3, hx5⟩
  rw [show findP exWant [106, 111, 110, 101, 115] = some [exPl 2] from ex_find.1]
  rw [show plc exWant [106, 111, 110, 101, 115] = [exPl 2] by unfold plc; rw [ex_find.1]; rfl] at hr3
  have HR3 := Lib.hid hr3
  have HX45 := Lib.hid hx5
  clear hr3 hx5
  simp only [Option.isSome_some]
  go_wp2_with fail
  refine (ifind_any w5 exWant [74, 111, 110, 101, 115] A1 n1 c1 10 (HT1.out.ext (HX24.out.trans HX45.out)) (by omega)).mono ?_
  rintro e w6 ⟨A4, n4, c4, rfl, hnc4, hr4, hx6⟩
  rw [show findP exWant [74, 111, 110, 101, 115] = none from ex_find.2.1]
  have HX56 := Lib.hid hx6
  clear hr4 hx6 hnc4
  simp only [Option.isSome_none]
  go_wp2_with fail
  refine (at31_any 2 w6).mono ?_
  rintro e wb ⟨rfl, hxb⟩
  obtain ⟨g2, hg2⟩ : ∃ g2, wb.heap.size = g2 := ⟨_, rfl⟩
  obtain ⟨w7, hw7⟩ : ∃ w7, wb.alloc (.cells #[.int .i64 3, .int .i64 1, .int .i64 0, .int .i64 2] 69) = w7 := ⟨_, rfl⟩
  have hxw7 : Ext wb w7 := by rw [← hw7]; exact (Ext.refl wb).alloc _
  have hbw7 : w7.heap[g2]? = some (.cells #[.int .i64 3, .int .i64 1, .int .i64 0, .int .i64 2] 69 (0, 0)) := by rw [← hw7, ← hg2]; exact heap_alloc_new _ _
  have HX67 := Lib.hid (hxb.trans hxw7)
  have HG2 := Lib.hid hbw7
  clear hxb hxw7 hbw7
  go_wp2_with fail
  refine (at31_any 1 w7).mono ?_
  rintro e wc ⟨rfl, hxc⟩
  clear hg2 hw7
  go_wp2_with fail
  refine (at31_any 2 wc).mono ?_
  rintro e wd ⟨rfl, hxd⟩
  go_wp2_with fail
  refine (at31_any 3 wd).mono ?_
  rintro e we ⟨rfl, hxe⟩
  obtain ⟨g3, hg3⟩ : ∃ g3, we.heap.size = g3 := ⟨_, rfl⟩
  obtain ⟨w8, hw8⟩ : ∃ w8, we.alloc (.cells #[.int .i64 3, .int .i64 1, .int .i64 0, .int .i64 1, .int .i64 3, .int .i64 1, .int .i64 0, .int .i64 2, .int .i64 3, .int .i64 1, .int .i64 0, .int .i64 3] 69) = w8 := ⟨_, rfl⟩
  have hxw8 : Ext we w8 := by rw [← hw8]; exact (Ext.refl we).alloc _
  have hbw8 : w8.heap[g3]? = some (.cells #[.int .i64 3, .int .i64 1, .int .i64 0, .int .i64 1, .int .i64 3, .int .i64 1, .int .i64 0, .int .i64 2, .int .i64 3, .int .i64 1, .int .i64 0, .int .i64 3] 69 (0, 0)) := by rw [← hw8, ← hg3]; exact heap_alloc_new _ _
  obtain ⟨g4, hg4⟩ : ∃ g4, w8.heap.size = g4 := ⟨_, rfl⟩
  obtain ⟨w9, hw9⟩ : ∃ w9, w8.alloc (.cells #[.string ⟨#[106, 111, 110, 101, 115]⟩, .slice (some ⟨g2, 0, none⟩) 1 1, .string ⟨#[115, 109, 105, 116, 104]⟩, .slice (some ⟨g3, 0, none⟩) 3 3] 99) = w9 := ⟨_, rfl⟩
  have hxw9 : Ext w8 w9 := by rw [← hw9]; exact (Ext.refl w8).alloc _
  have hbw9 : w9.heap[g4]? = some (.cells #[.string ⟨#[106, 111, 110, 101, 115]⟩, .slice (some ⟨g2, 0, none⟩) 1 1, .string ⟨#[115, 109, 105, 116, 104]⟩, .slice (some ⟨g3, 0, none⟩) 3 3] 99 (0, 0)) := by rw [← hw9, ← hg4]; exact heap_alloc_new _ _
  have hx79 : Ext w7 w9 := hxc.trans (hxd.trans (hxe.trans (hxw8.trans hxw9)))
  have HX79 := Lib.hid hx79
  have HW9 := Lib.hid (show kIt.row w9 (fun _ => True) (some ⟨g4, 0, none⟩) 2 exWant from it2_block hbw9 (ct_block (W := w9) [exPl 2] ((hx79.block _ (lt_of_block HG2.out)).trans HG2.out) rfl trivial) (ct_block (W := w9) [exPl 1, exPl 2, exPl 3] ((hxw9.block _ (lt_of_block hbw8)).trans hbw8) rfl trivial))
  clear hxc hxd hxe hxw8 hxw9 hbw8 hbw9 hx79
  go_wp2_with fail
  refine (at31_any 2 w9).mono ?_
  rintro e wf ⟨rfl, hxf⟩
  clear hg3 hw8 hg4 hw9
  obtain ⟨g5, hg5⟩ : ∃ g5, wf.heap.size = g5 := ⟨_, rfl⟩
  obtain ⟨w10, hw10⟩ : ∃ w10, wf.alloc (.cells #[.int .i64 3, .int .i64 1, .int .i64 0, .int .i64 2] 69) = w10 := ⟨_, rfl⟩
  have hxw10 : Ext wf w10 := by rw [← hw10]; exact (Ext.refl wf).alloc _
  have hbw10 : w10.heap[g5]? = some (.cells #[.int .i64 3, .int .i64 1, .int .i64 0, .int .i64 2] 69 (0, 0)) := by rw [← hw10, ← hg5]; exact heap_alloc_new _ _
  have HX910 := Lib.hid (hxf.trans hxw10)
  have HG5 := Lib.hid hbw10
  clear hxf hxw10 hbw10
  go_wp2_with fail
  refine (at31_any 2 w10).mono ?_
  rintro e wg ⟨rfl, hxg⟩
  clear hg5 hw10
  go_wp2_with fail
  refine (at31_any 3 wg).mono ?_
  rintro e wh ⟨rfl, hxh⟩
  obtain ⟨g6, hg6⟩ : ∃ g6, wh.heap.size = g6 := ⟨_, rfl⟩
  obtain ⟨w11, hw11⟩ : ∃ w11, wh.alloc (.cells #[.int .i64 3, .int .i64 1, .int .i64 0, .int .i64 2, .int .i64 3, .int .i64 1, .int .i64 0, .int .i64 3] 69) = w11 := ⟨_, rfl⟩
  have hxw11 : Ext wh w11 := by rw [← hw11]; exact (Ext.refl wh).alloc _
  have hbw11 : w11.heap[g6]? = some (.cells #[.int .i64 3, .int .i64 1, .int .i64 0, .int .i64 2, .int .i64 3, .int .i64 1, .int .i64 0, .int .i64 3] 69 (0, 0)) := by rw [← hw11, ← hg6]; exact heap_alloc_new _ _
  obtain ⟨g7, hg7⟩ : ∃ g7, w11.heap.size = g7 := ⟨_, rfl⟩
  obtain ⟨w12, hw12⟩ : ∃ w12, w11.alloc (.cells #[.string ⟨#[106, 111, 110, 101, 115]⟩, .slice (some ⟨g5, 0, none⟩) 1 1, .string ⟨#[115, 109, 105, 116, 104]⟩, .slice (some ⟨g6, 0, none⟩) 2 2] 99) = w12 := ⟨_, rfl⟩
  have hxw12 : Ext w11 w12 := by rw [← hw12]; exact (Ext.refl w11).alloc _
  have hbw12 : w12.heap[g7]? = some (.cells #[.string ⟨#[106, 111, 110, 101, 115]⟩, .slice (some ⟨g5, 0, none⟩) 1 1, .string ⟨#[115, 109, 105, 116, 104]⟩, .slice (some ⟨g6, 0, none⟩) 2 2] 99 (0, 0)) := by rw [← hw12, ← hg7]; exact heap_alloc_new _ _
  have hx1012 : Ext w10 w12 := hxg.trans (hxh.trans (hxw11.trans hxw12))
  have HW12 := Lib.hid (show kIt.row w12 (fun _ => True) (some ⟨g7, 0, none⟩) 2 exSealed from it2_block hbw12 (ct_block (W := w12) [exPl 2] ((hx1012.block _ (lt_of_block HG5.out)).trans HG5.out) rfl trivial) (ct_block (W := w12) [exPl 2, exPl 3] ((hxw12.block _ (lt_of_block hbw11)).trans hbw11) rfl trivial))
  have HX912 := Lib.hid (HX910.out.trans hx1012)
  have HX412 := Lib.hid (HX45.out.trans (HX56.out.trans (HX67.out.trans (HX79.out.trans HX912.out))))
  have HX212 := Lib.hid (HX24.out.trans HX412.out)
  clear hxg hxh hxw11 hxw12 hbw11 hbw12 hx1012
  have hmx : ∀ x ∈ exWant ++ exWant, x.2.length ≤ 100000000 := by decide
  have hms : ∀ x ∈ exSealed ++ exSealed, x.2.length ≤ 100000000 := by decide
  have HM1 := Lib.hid hmx
  have HM2 := Lib.hid hms
  clear hmx hms
  go_wp2_with fail
  refine (same_any _ _ w12 exWant exWant HM1.out A1 (some ⟨g4, 0, none⟩) n1 2 c1 2 (HT1.out.ext HX212.out).row (Lay.row_ext HW9.out HX912.out) (by have := HT1.out.n; omega) (by omega)).mono ?_
  rintro e wj ⟨rfl, qj, rfl⟩
  rw [show decide (exWant = exWant) = true from decide_eq_true rfl]
  clear hg6 hw11 hg7 hw12
  go_wp2_with fail
  refine (same_any _ _ (w12.drewN qj) exSealed exSealed HM2.out A2 (some ⟨g7, 0, none⟩) n2 2 c2 2 ((HT2.out.ext HX412.out).ext ((Ext.refl w12).drewN qj)).row (Lay.row_ext HW12.out ((Ext.refl w12).drewN qj)) (by have := HT2.out.n; omega) (by omega)).mono ?_
  rintro e wk ⟨rfl, qk, rfl⟩
  rw [show decide (exSealed = exSealed) = true from decide_eq_true rfl]
  have HXK := Lib.hid (show Ext w12 ((w12.drewN qj).drewN qk) from ((Ext.refl w12).drewN qj).drewN qk)
  obtain ⟨w13, hw13⟩ : ∃ w13, (w12.drewN qj).drewN qk = w13 := ⟨_, rfl⟩
  rw [hw13] at HXK ⊢
  clear hw13
  go_wp2_with fail
  refine (at31_any 2 w13).mono ?_
  rintro e wl ⟨rfl, hxl⟩
  obtain ⟨g8, hg8⟩ : ∃ g8, wl.heap.size = g8 := ⟨_, rfl⟩
  obtain ⟨w14, hw14⟩ : ∃ w14, wl.alloc (.cells #[.int .i64 3, .int .i64 1, .int .i64 0, .int .i64 2] 69) = w14 := ⟨_, rfl⟩
  have hxw14 : Ext wl w14 := by rw [← hw14]; exact (Ext.refl wl).alloc _
  have hbw14 : w14.heap[g8]? = some (.cells #[.int .i64 3, .int .i64 1, .int .i64 0, .int .i64 2] 69 (0, 0)) := by rw [← hw14, ← hg8]; exact heap_alloc_new _ _
  have HX14 := Lib.hid (HXK.out.trans (hxl.trans hxw14))
  have HR14 := Lib.hid (show kCt.row w14 (fun _ => True) (some ⟨g8, 0, none⟩) 1 [exPl 2] from ct_block (W := w14) [exPl 2] hbw14 rfl trivial)
  have HR3' := Lib.hid (Lay.row_ext HR3.out (HX56.out.trans (HX67.out.trans (HX79.out.trans (HX912.out.trans HX14.out)))))
  clear hxl hxw14 hbw14
  go_wp2_with fail
  refine (samec_any _ _ w14 [exPl 2] [exPl 2] A3 (some ⟨g8, 0, none⟩) n3 1 c3 1 HR3'.out HR14.out (by have := Lay.row_len HR3'.out; simp at this; omega) (by omega)).mono ?_
  rintro e wm ⟨rfl, qm, rfl⟩
  rw [show decide ([exPl 2] = [exPl 2]) = true from decide_eq_true rfl]
  clear hg8 hw14
  have HX15 := Lib.hid (HX212.out.trans (HX14.out.drewN qm))
  have HX415 := Lib.hid (HX412.out.trans (HX14.out.drewN qm))
  have HX915 := Lib.hid (HX912.out.trans (HX14.out.drewN qm))
  obtain ⟨w15, hw15⟩ : ∃ w15, w14.drewN qm = w15 := ⟨_, rfl⟩
  rw [hw15] at HX15 HX415 HX915 ⊢
  clear hw15
  obtain ⟨d0, d1, d2⟩ := HZC.out w15 (HX2.out.trans HX15.out)
  go_wp2_with fail
  refine (HRUN.out w15 (HX2.out.trans HX15.out) 0 [] none 0 0 (Lay.row_nil _ _ _) (fun s hs => by cases hs) (by omega) [] ex_items.2.2 ex_len.2.2).mono ?_
  rintro e w16 ⟨A5, n5, c5, rfl, hT5, hx16⟩
  obtain rfl : n5 = 0 := hT5.n.1
  have HX16 := Lib.hid hx16
  clear hT5 hx16 d0 d1 d2
  go_wp2_with fail
  refine (imerge_any w16 A1 A2 n1 n2 c1 c2 10 10 exWant exSealed (HT1.out.ext (HX15.out.trans HX16.out)) (HT2.out.ext (HX415.out.trans HX16.out)) (by omega)).mono ?_
  rintro e w17 ⟨A6, n6, c6, rfl, hT6, hx17⟩
  rw [ex_find.2.2] at hT6
  have HT6 := Lib.hid hT6
  have HX17 := Lib.hid (HX16.out.trans hx17)
  clear hT6 hx17
  go_wp2_with fail
  refine (same_any _ _ w17 exWant exWant HM1.out A6 (some ⟨g4, 0, none⟩) n6 2 c6 2 HT6.out.row (Lay.row_ext HW9.out (HX915.out.trans HX17.out)) (by have := HT6.out.n; omega) (by omega)).mono ?_
  rintro e wn ⟨rfl, qn, rfl⟩
  rw [show decide (exWant = exWant) = true from decide_eq_true rfl]
  go_wp2_with fail
  go_ret
  exact ⟨rfl, HX1.out.trans (HX2.out.trans (HX15.out.trans (HX17.out.drewN qn)))⟩
end
end Go.Proofs.YtdbnddmncbjobaaGreatDoor