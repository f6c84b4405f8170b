/- Finding a key, in the reference and by binary search: walked. -/
import Derived.Test.YtdbnddmncbjobaaGreatDoorMbb
import Derived.Maps.RangeWalk
namespace Go.Proofs.YtdbnddmncbjobaaGreatDoor
section
open Go Go.RowKit
attribute [local go_sem] Oper.semAt_some
theorem own_empty {β : Type} {k : Lay β} {e : TypeId} {X : World} {base : Nat} {P : Nat → Prop} (hb : base ≤ X.heap.size) : k.own e (X.alloc (.cells #[] e)) base P (.slice (some ⟨X.heap.size, 0, none⟩) 0 0) [] :=
 ⟨[], ⟨by simp [gcells], .inr ⟨X.heap.size, 0, #[], rfl, hb, heap_alloc_new X _, Nat.le_refl _, by simp [maxLen], by simp, by simp [gcells]⟩⟩, rfl, fun i d x hd => by simp at hd⟩
theorem cp_ct {P : Nat → Prop} {w X : World} {A : Option Addr} {n c : Nat} {l : List Ct} (hr : kCt.row w P A n l) (hX : Ext w X) (hn : n ≤ 40000000) :
  ∃ A' c' w', (Builtin.append_ #[38, 38] 38 #[.slice (some ⟨X.heap.size, 0, none⟩) 0 0, .slice A n c]).run Tryz.prog (X.alloc (.cells #[] 69)) = .ok (.slice A' n c') w' ∧ n ≤ c' ∧ kCt.row w' (fun j => P j ∨ w.heap.size ≤ j) A' n l ∧ Ext w w' := by
 obtain ⟨A', c', w', r, o, hx⟩ := own_app (k := kCt) (Pr := Tryz.prog) (t := 38) (e := 69) Tryz.underlying38 info69 rfl (by decide) (by omega) (own_empty (P := P) (Nat.le_trans hX.lt (Nat.le_refl _))) (hX.alloc _) hr c (by simp; omega)
 simp only [List.length_nil, Nat.zero_add, List.nil_append] at r o
 obtain ⟨h1, h2⟩ := own_rowQ o
 exact ⟨A', c', w', r, h1, h2, hx⟩
theorem findP_take {T : Tb} {k : List UInt8} {i : Nat} {y : List UInt8 × List Ct} (h : ∀ y ∈ T.take i, y.1 ≠ k) (hy : T[i]? = some y) (hk : y.1 = k) : findP T k = some y.2 := by
 unfold findP
 have : T.find? (fun x => x.1 == k) = some y := by
  obtain ⟨hi, rfl⟩ := List.getElem?_eq_some_iff.1 hy
  conv => lhs; rw [← List.take_append_drop i T, List.drop_eq_getElem_cons hi]
  rw [List.find?_append, List.find?_eq_none.2 (fun x hx => by simpa using h x hx), Option.none_or, List.find?_cons, show (T[i].1 == k) = true by simpa using hk]
 rw [this]; rfl
theorem find_nope {T : Tb} {k : List UInt8} (h : ∀ y ∈ T, y.1 ≠ k) : findP T k = none := by
 unfold findP
 rw [List.find?_eq_none.2 (fun x hx => by simpa using h x hx)]; rfl
def FindGet (w : World) (T : Tb) (k : List UInt8) (e : Ending) (w' : World) : Prop := ∃ A n c, e = .returned (.tuple #[.slice A n c, .bool (findP T k).isSome]) ∧ n ≤ c ∧ kCt.row w' (fun _ => True) A n (plc T k) ∧ Ext w w'
theorem FindGet.no {w w' : World} {T : Tb} {k : List UInt8} (h : findP T k = none) (hx : Ext w w') : FindGet w T k (.returned (.tuple #[.slice none 0 0, .bool false])) w' := by
 refine ⟨none, 0, 0, by rw [h]; rfl, Nat.le_refl _, ?_, hx⟩
 unfold plc; rw [h]; exact Lay.row_nil _ _ _
theorem FindGet.yes {w w' : World} {T : Tb} {k : List UInt8} {l : List Ct} {A : Option Addr} {n c : Nat} (h : findP T k = some l) (hc : n ≤ c) {P : Nat → Prop} (hr : kCt.row w' P A n l) (hx : Ext w w') : FindGet w T k (.returned (.tuple #[.slice A n c, .bool true])) w' := by
 refine ⟨A, n, c, by rw [h]; rfl, hc, ?_, hx⟩
 unfold plc; rw [h]; exact Lay.row_mono hr fun _ _ _ => trivial
theorem clone_ct (P : Nat → Prop) (w : World) (A : Option Addr) (n c : Nat) (l : List Ct) (h : kCt.row w P A n l) (hn : n ≤ 40000000) :
  Calls Tryz.prog 69 #[.slice A n c] w fun e w' => ∃ A' c', e = .returned (.slice A' n c') ∧ n ≤ c' ∧ kCt.row w' (fun j => P j ∨ w.heap.size ≤ j) A' n l ∧ Ext w w' := by
 have q38 := fun (w : World) (a : Option Addr) (n c n' c' : Nat) => Lib.run_eql_slice_nil (P := Tryz.prog) w _ _ a n c n' c' Tryz.underlying38
 cases A with
 | none =>
  obtain rfl := row_A h rfl
  have hl := List.eq_nil_of_length_eq_zero (Lay.row_len h).symm
  subst hl
  go_enter Tryz.func69, Tryz.ntmps69
  go_wp2_with fail
  go_ret
  exact ⟨none, 0, rfl, Nat.le_refl _, Lay.row_nil _ _ _, Ext.refl _⟩
 | some a =>
  obtain ⟨A', c', w', r, hc', hr', hx'⟩ := cp_ct (c := c) h (Ext.refl w) hn
  have RUN := Hd r
  have HR' := Hd hr'
  have HX' := Hd hx'
  clear h r hr' hx'
  go_enter Tryz.func69, Tryz.ntmps69
  go_wp2_with (first | (at_builtin; refine wpList_append_run (s := .tmp 5) (x := .tmp 6) RUN.out rfl rfl rfl rfl rfl ?_))
  go_ret
  exact ⟨A', c', rfl, hc', HR'.out, HX'.out⟩
set_option maxRecDepth 100000 in
theorem fcmp_any (a b : List UInt8) (u : Value) (w : World) : Calls Tryz.prog 67 #[.agg #[.string ⟨a.toArray⟩, u], .string ⟨b.toArray⟩] w fun e w' => e = .returned (.int .i64 (Lib.compareBytes a b)) ∧ Ext w w' := by
 have HC := Hd (fun W => strcmp_any a b W)
 generalize Lib.compareBytes a b = r at HC ⊢
 have HX := Hd ((Ext.refl w).alloc (.cells #[.string ⟨a.toArray⟩, u] 99))
 go_enter Tryz.func67, Tryz.ntmps67
 go_wp2_with (go_at_call 68; refine (HC.out _).mono ?_; rintro e w9 ⟨rfl, rfl⟩)
 go_ret
 exact ⟨rfl, HX.out⟩
theorem bs_find {T : Tb} (hT : Reg T) {k : List UInt8} {i : Nat} (h1 : ∀ y ∈ T.take i, sLt y.1 k = true) (h2 : ∀ y ∈ T.drop i, sLt y.1 k = false) : findP T k = match T[i]? with | some y => if y.1 = k then some y.2 else none | none => none := by
 cases hy : T[i]? with
 | none =>
  have : ∀ y ∈ T, y.1 ≠ k := fun y hm => sLt_ne (h1 y (by rw [List.take_of_length_le (by rw [List.getElem?_eq_none_iff] at hy; exact hy)]; exact hm))
  exact find_nope this
 | some y =>
  simp only
  split
  ·next e => exact findP_take (fun y hm => sLt_ne (h1 y hm)) hy e
  ·next e =>
   refine find_nope fun y' hm => ?_
   rw [← List.take_append_drop i T] at hm
   rcases List.mem_append.1 hm with hm | hm
   ·exact sLt_ne (h1 y' hm)
   ·obtain ⟨hi, rfl⟩ := List.getElem?_eq_some_iff.1 hy
    have hd : T.drop i = T[i] :: T.drop (i + 1) := List.drop_eq_getElem_cons hi
    have hpw := hT.keys
    rw [← List.take_append_drop i T, List.pairwise_append, hd, List.pairwise_cons] at hpw
    have h3 := h2 T[i] (by rw [hd]; exact .head _)
    rw [hd] at hm
    rcases List.mem_cons.1 hm with rfl | hm
    ·exact e
    ·intro e2
     have := hpw.2.1.1 y' hm
     rw [e2, h3] at this
     cases this
theorem bs_lt {T : Tb} (hT : Reg T) {k : List UInt8} {h : Nat} {y : List UInt8 × List Ct} (hy : T[h]? = some y) (hs : sLt y.1 k = true) : ∀ y' ∈ T.take (h + 1), sLt y'.1 k = true := by
 obtain ⟨hi, rfl⟩ := List.getElem?_eq_some_iff.1 hy
 intro y' hm
 obtain ⟨j, hj⟩ := List.getElem?_of_mem hm
 rw [List.getElem?_take] at hj
 split at hj
 ·next hjh =>
  obtain ⟨hj1, rfl⟩ := List.getElem?_eq_some_iff.1 hj
  rcases Nat.lt_or_ge j h with h9 | h9
  ·exact sLt_trans (List.pairwise_iff_getElem.1 hT.keys j h hj1 hi h9) hs
  ·obtain rfl : j = h := by omega
   exact hs
 ·cases hj
theorem bs_ge {T : Tb} (hT : Reg T) {k : List UInt8} {h : Nat} {y : List UInt8 × List Ct} (hy : T[h]? = some y) (hs : sLt y.1 k = false) : ∀ y' ∈ T.drop h, sLt y'.1 k = false := by
 obtain ⟨hi, rfl⟩ := List.getElem?_eq_some_iff.1 hy
 intro y' hm
 obtain ⟨j, hj⟩ := List.getElem?_of_mem hm
 rw [List.getElem?_drop] at hj
 obtain ⟨hj1, rfl⟩ := List.getElem?_eq_some_iff.1 hj
 rcases Nat.eq_zero_or_pos j with h9 | h9
 ·subst h9; exact hs
 ·cases h8 : sLt T[h + j].1 k with
  | false => rfl
  | true => rw [sLt_trans (List.pairwise_iff_getElem.1 hT.keys h (h + j) hi hj1 (by omega)) h8] at hs; cases hs
def BsR (w : World) (T : Tb) (k : List UInt8) (s9 s10 : Value) (W : World) : Prop := ∃ i j : Nat, i ≤ j ∧ j ≤ T.length ∧ s9 = .int .i64 i ∧ s10 = .int .i64 j ∧ (∀ y ∈ T.take i, sLt y.1 k = true) ∧ (∀ y ∈ T.drop j, sLt y.1 k = false) ∧ Ext w W
def bsM (s9 s10 : Value) : Nat := match s9, s10 with | .int _ a, .int _ b => (b - a).toNat | _, _ => 0
set_option maxHeartbeats 4000000 in
set_option maxRecDepth 100000 in
theorem bsearch_any (w : World) (T : Tb) (k : List UInt8) (A : Option Addr) (n c M : Nat) (h : TbV w A n c T M) (hM : M ≤ 40000000) :
  Calls Tryz.prog 66 #[.slice A n c, .string ⟨k.toArray⟩, .func (.func 67) #[] #[]] w fun e w' => ∃ i : Nat, e = .returned (.tuple #[.int .i64 i, .bool (findP T k).isSome]) ∧ (∀ l, findP T k = some l → ∃ y, T[i]? = some y ∧ y.2 = l) ∧ Ext w w' := by
 have HR := Hd h.row
 obtain ⟨hn, hnM, hlm⟩ := h.n
 have HL := Hd hn
 have HREG := Hd h.reg
 have HCP := Hd (fun a u W => fcmp_any a k u W)
 clear h hn hlm
 go_enter Tryz.func66, Tryz.ntmps66
 go_wp2_with fail
 go_loopw [9, 10] (fun s9 s10 W => BsR w T k s9 s10 W) (fun s9 s10 _ => bsM s9 s10)
 case atStart => exact ⟨0, n, by omega, by rw [HL.out]; exact Nat.le_refl _, rfl, rfl, by simp, by rw [HL.out, List.drop_length]; simp, Ext.refl _⟩
 obtain ⟨i, j, hij, hj, rfl, rfl, hp, hq, hx⟩ := hrel
 rw [← HL.out] at hj
 have HP := Hd hp
 have HQ := Hd hq
 have HX := Hd hx
 clear hp hq hx
 by_cases hlt : i < j
 case neg =>
  obtain rfl : i = j := by omega
  have hni : ¬ ((i : Int) < (i : Int)) := by omega
  have HF := Hd (bs_find HREG.out HP.out HQ.out)
  by_cases hin : i < n
  ·obtain ⟨y, hy⟩ : ∃ y, T[i]? = some y := ⟨_, List.getElem?_eq_getElem (by have := HL.out; omega)⟩
   obtain ⟨b, off, A2, n2, c2, rfl, hb, a0, a1, _, _⟩ := it_at (Lay.row_ext HR.out HX.out) hy
   have HY := Hd hy
   have hinI : (i : Int) < (n : Int) := by omega
   have HCY := Hd (fun W => HCP.out y.1 (.slice A2 n2 c2) W)
   rw [hy] at HF
   clear hy
   by_cases hk : y.1 = k
   ·have h0 : Lib.compareBytes y.1 k = 0 := (cmpB_eq _ _).2 hk
    have HF' := Hd (HF.out.trans (if_pos hk))
    rw [h0] at HCY
    clear hk h0
    go_wp2_with (first | (go_at_call 67; refine (HCY.out _).mono ?_; rintro e w2 ⟨rfl, hx2⟩; have HX2 := Hd hx2; clear hx2))
    refine bodyPost_ret (v := .tuple #[.int .i64 (i : Int), .bool true]) (by simp [results, Tryz.results66, go_sem]) rfl ?_
    exact ⟨i, by rw [HF'.out]; rfl, fun l hl => ⟨y, HY.out, by rw [HF'.out] at hl; exact Option.some.inj hl⟩, HX.out.trans HX2.out⟩
   ·have h0 : Lib.compareBytes y.1 k ≠ 0 := fun e => hk ((cmpB_eq _ _).1 e)
    have HF' := Hd (HF.out.trans (if_neg hk))
    generalize Lib.compareBytes y.1 k = r at HCY h0
    have h00 : (r == 0) = false := by simpa using h0
    clear hk h0
    go_wp2_with (first | (go_at_call 67; refine (HCY.out _).mono ?_; rintro e w2 ⟨rfl, hx2⟩; have HX2 := Hd hx2; clear hx2))
    refine bodyPost_ret (v := .tuple #[.int .i64 (i : Int), .bool false]) (by simp [results, Tryz.results66, go_sem]) rfl ?_
    exact ⟨i, by rw [HF'.out]; rfl, fun l hl => (by rw [HF'.out] at hl; cases hl), HX.out.trans HX2.out⟩
  ·have hinI : ¬ ((i : Int) < (n : Int)) := by omega
   have hinb : decide ((i : Int) < (n : Int)) = false := decide_eq_false hinI
   have HF' := Hd (show findP T k = none by have h9 := HF.out; rw [List.getElem?_eq_none (by have := HL.out; omega)] at h9; exact h9)
   go_wp2_with fail
   refine bodyPost_ret (v := .tuple #[.int .i64 (i : Int), .bool false]) (by simp [results, Tryz.results66, go_sem]) rfl ?_
   exact ⟨i, by rw [HF'.out]; rfl, fun l hl => (by rw [HF'.out] at hl; cases hl), HX.out⟩
 have hI : (i : Int) < (j : Int) := by omega
 obtain ⟨h, hh, hih, hhj⟩ : ∃ h : Nat, ((i : Int) + (j : Int)) / 2 = (h : Int) ∧ i ≤ h ∧ h < j := ⟨(i + j) / 2, by omega, by omega, by omega⟩
 obtain ⟨y, hy⟩ : ∃ y, T[h]? = some y := ⟨_, List.getElem?_eq_getElem (by have := HL.out; omega)⟩
 obtain ⟨b, off, A2, n2, c2, rfl, hb, a0, a1, _, _⟩ := it_at (Lay.row_ext HR.out HX.out) hy
 have hhI : (h : Int) < (n : Int) := by omega
 have HCY := Hd (fun W => HCP.out y.1 (.slice A2 n2 c2) W)
 have HLE := Hd (cmpB_lt y.1 k)
 generalize Lib.compareBytes y.1 k = r at HCY HLE
 have hw1 : IntKind.i64.wrap ((h : Int) + 1) = (h : Int) + 1 := IntWalk.i64_in _ (by omega)
 cases hs : sLt y.1 k with
 | true =>
  have hr0 : r < 0 := HLE.out.2 hs
  have HN := Hd (bs_lt HREG.out hy hs)
  clear hs hy
  go_wp2_with (first | (go_at_call 67; refine (HCY.out _).mono ?_; rintro e w2 ⟨rfl, hx2⟩; have HX2 := Hd hx2; clear hx2))
  go_roundw
  case rel => exact ⟨h + 1, j, by omega, by have := HL.out; omega, by go_num, rfl, HN.out, HQ.out, HX.out.trans HX2.out⟩
  case measure => simp only [bsM]; omega
 | false =>
  have hr0 : ¬ r < 0 := fun h9 => by rw [HLE.out.1 h9] at hs; cases hs
  have HN := Hd (bs_ge HREG.out hy hs)
  clear hs hy
  go_wp2_with (first | (go_at_call 67; refine (HCY.out _).mono ?_; rintro e w2 ⟨rfl, hx2⟩; have HX2 := Hd hx2; clear hx2))
  go_roundw
  case rel => exact ⟨i, h, hih, by have := HL.out; omega, rfl, rfl, HP.out, HN.out, HX.out.trans HX2.out⟩
  case measure => simp only [bsM]; omega
set_option maxHeartbeats 4000000 in
set_option maxRecDepth 100000 in
theorem ifind_any (w : World) (T : Tb) (k : List UInt8) (A : Option Addr) (n c M : Nat) (h : TbV w A n c T M) (hM : M ≤ 40000000) : Calls Tryz.prog 23 #[.slice A n c, .string ⟨k.toArray⟩] w (FindGet w T k) := by
 have HB := Hd (bsearch_any w T k A n c M h hM)
 have HR := Hd h.row
 obtain ⟨hn, hnM, hlm⟩ := h.n
 have HL := Hd hn
 have HM := Hd hlm
 clear h hn hlm
 cases hf : findP T k with
 | none =>
  have HF := Hd hf
  clear hf
  rw [HF.out] at HB
  go_enter Tryz.func23, Tryz.ntmps23
  go_wp2_with (first | (go_at_call 66; refine (HB.out).mono ?_; rintro e w2 ⟨i, rfl, _, hx2⟩; have HX2 := Hd hx2; clear hx2))
  refine bodyPost_ret (v := .tuple #[.slice none 0 0, .bool false]) (by simp [results, Tryz.results23, go_sem]) rfl ?_
  exact FindGet.no HF.out HX2.out
 | some l =>
  have HF := Hd hf
  clear hf
  rw [HF.out] at HB
  go_enter Tryz.func23, Tryz.ntmps23
  go_upto_region 4 with (first | (go_at_call 66; refine (HB.out).mono ?_; rintro e w2 ⟨i, rfl, hl, hx2⟩; have HX2 := Hd hx2; have HLI := Hd (hl l rfl); clear hl hx2))
  obtain ⟨y, hy, hyl⟩ := HLI.out
  obtain ⟨b, off, A2, n2, c2, rfl, hb, a0, a1, hnc2, hr2⟩ := it_at (Lay.row_ext HR.out HX2.out) hy
  have hin : (i : Int) < (n : Int) := by have := (List.getElem?_eq_some_iff.1 hy).1; have := HL.out; omega
  have hn2 : n2 ≤ 40000000 := by rw [Lay.row_len hr2]; exact Nat.le_trans (HM.out y (List.mem_of_getElem? hy)) hM
  rw [hyl] at hr2
  have HC := Hd (clone_ct _ w2 A2 n2 c2 l hr2 hn2)
  clear hy hyl hr2
  go_wp2_with (first | (go_at_call 69; refine (HC.out).mono ?_; rintro e w3 ⟨A3, c3, rfl, hc3, hr3, hx3⟩; have HR3 := Hd hr3; have HX3 := Hd hx3; clear hr3 hx3))
  refine bodyPost_ret (v := .tuple #[.slice A3 n2 c3, .bool true]) (by simp [results, Tryz.results23, go_sem]) rfl ?_
  exact FindGet.yes HF.out hc3 HR3.out (HX2.out.trans HX3.out)
end
section
open Go Go.RowKit Go.Sort
attribute [local go_sem] Oper.semAt_some
theorem itCs_one (x : ItV) : ∀ u ∈ itCs x, u.oneCell' = true := fun u hu => by
 simp only [itCs, List.mem_cons, List.not_mem_nil, or_false] at hu
 rcases hu with rfl | rfl <;> rfl
def kIv : Lay ItV where
 sz := 2
 rep _ _ x cs := cs = itCs x
 len h := by subst h; rfl
 one h := by subst h; exact itCs_one _
 keep h _ _ := h
 mono h _ := h
theorem iv_cells {W : World} {B : Nat} {P : Nat → Prop} {v : Value} {xs : List ItV} (h : kIv.own 99 W B P v xs) : W.ownsRow B 99 2 v xs.length (xs.flatMap itCs) := by
 obtain ⟨ds, h1, h2, h3⟩ := h
 have e : gcells ccf ds = xs.flatMap itCs := by
  have : ∀ (ds : List (Cs kIv.sz)) (xs : List ItV), ds.length = xs.length → (∀ (i : Nat) (d : Cs kIv.sz) (x : ItV), ds[i]? = some d → xs[i]? = some x → ccf d = itCs x) → gcells ccf ds = xs.flatMap itCs := by
   intro ds
   induction ds with
   | nil => intro xs hl _; cases xs with
    | nil => rfl
    | cons x xs => simp at hl
   | cons d ds ih => intro xs hl hh; cases xs with
    | nil => simp at hl
    | cons x xs =>
     have h0 := hh 0 d x rfl rfl
     have h1 := ih xs (by simpa using hl) fun i d x hd hx => hh (i + 1) d x (by simpa using hd) (by simpa using hx)
     unfold gcells at h1 ⊢
     rw [List.flatMap_cons, List.flatMap_cons, h0, h1]
  exact this ds xs h2 fun i d x hd hx => h3 i d x hd hx
 unfold OL at h1
 rw [h2, e] at h1
 exact h1
def ivC (x : ItV) : Cs kIv.sz := ⟨itCs x, rfl, itCs_one x⟩
theorem gcells_ivC (xs : List ItV) : gcells ccf (xs.map ivC) = xs.flatMap itCs := by
 induction xs with
 | nil => rfl
 | cons x xs ih => unfold gcells at ih ⊢; rw [List.map_cons, List.flatMap_cons, List.flatMap_cons, ih]; rfl
theorem cells_iv {W : World} {B : Nat} {P : Nat → Prop} {v : Value} {xs : List ItV} (h : W.ownsRow B 99 2 v xs.length (xs.flatMap itCs)) : kIv.own 99 W B P v xs := by
 refine ⟨xs.map ivC, ?_, List.length_map _, fun i d x hd hx => ?_⟩
 ·unfold OL
  rw [gcells_ivC, List.length_map]
  exact h
 ·rw [List.getElem?_map, hx] at hd
  simp only [Option.map_some, Option.some.injEq] at hd
  subst hd
  rfl
instance : Inhabited ItV := ⟨⟨[], none, 0, 0⟩⟩
theorem sort_iown (w : World) (B : Nat) (v : Value) (xs : List ItV) (h : kIv.own 99 w B (fun _ => False) v xs) (hne : xs ≠ []) (hl : xs.length ≤ 100000000) :
  Calls Tryz.prog 114 #[v, .func (.func 115) #[] #[]] w fun e w' => e = .returned (.tuple #[]) ∧ ∃ ys, ys.Perm xs ∧ (ys.Pairwise fun a b => sLt b.1 a.1 = false) ∧ kIv.own 99 w' B (fun _ => False) v ys ∧ w.grownBy w' v.ownBlock := by
 have hc := iv_cells h
 rcases hc.2 with ⟨_, h0⟩ | ⟨g, cap, cur, rfl, hbase, hb, h1, h2, h3, h4⟩
 ·exact absurd (List.length_eq_zero_iff.1 h0) hne
 have hk : ∀ x, (itCs x).length = 2 := fun _ => rfl
 have hg : g < w.heap.size := (Array.getElem?_eq_some_iff.1 hb).1
 have hs := sort_it g cap xs.toArray w (holdsK_block hk hb h4) hg (by simp; omega)
 rw [List.size_toArray] at hs
 refine hs.mono ?_
 rintro e w' ⟨he, d', n, os, hp, hsr, rfl⟩
 have hsz : d'.size = xs.length := by have := hp.1; simpa using this
 have hp' : d'.toList.Perm xs := by
  have := perm_all (d := xs.toArray) (d' := d') (by simpa using hp)
  simpa using this
 refine ⟨he, d'.toList, hp', ?_, ?_, ?_⟩
 ·refine (sorted_all (by rw [hsz]) hsr).imp fun {a b} hab => ?_
  simp only [ltOf, decide_eq_false_iff_not, cmpB_lt] at hab
  simpa using hab
 ·have h9 := ownsRow_sortedK (enc := itCs) hk (w := w) (base := B) (g := g) (cap := cap) (n := n) (os := os) (ts := d'.toList) (m := xs.length) (by simpa using hsz) hbase hb h1 h2 h3
  have e2 : d'.toList.length = xs.length := by simpa using hsz
  rw [← e2] at h9 ⊢
  exact cells_iv (by simpa using h9)
 ·exact grown_sortedK d'
set_option maxHeartbeats 2000000 in
theorem ins_none (p : Option Addr) (cap : Nat) (fv : Value) (w : World) : Calls Tryz.prog 170 #[.slice p 0 cap, .int .i64 0, .int .i64 0, fv] w fun e w' => e = .returned (.tuple #[]) ∧ w' = w := by
 go_enter Tryz.func170, Tryz.ntmps170
 go_wp2
 refine wp_loop_rounds 1 ?_
 rw [rounds_succ]
 go_wp2
 go_end0
 exact ⟨rfl, rfl⟩
set_option maxHeartbeats 2000000 in
theorem pdq_none (p : Option Addr) (cap : Nat) (lim : Int) (fv : Value) (w : World) : Calls Tryz.prog 144 #[.slice p 0 cap, .int .i64 0, .int .i64 0, .int .i64 lim, fv] w fun e w' => e = .returned (.tuple #[]) ∧ w' = w := by
 have HI := Hd (fun W => ins_none p cap fv W)
 go_enter Tryz.func144, Tryz.ntmps144
 go_wp2
 refine wp_loop_rounds 1 ?_
 rw [rounds_succ]
 go_wp2_with (first | (go_at_call 170; refine (HI.out _).mono ?_; rintro e w' ⟨rfl, rfl⟩))
 (try simp only [Exit.inBlock, Exit.then]); refine bodyPost_ret (results_none rfl _ _ _) rfl ?_
 exact ⟨rfl, rfl⟩
theorem sort_none (p : Option Addr) (cap : Nat) (fv : Value) (w : World) : Calls Tryz.prog 114 #[.slice p 0 cap, fv] w fun e w' => e = .returned (.tuple #[]) ∧ w' = w := by
 have HP := Hd (fun lim W => pdq_none p cap lim fv W)
 have HB := Hd (fun W => (show Calls Tryz.prog 141 #[.int .u64 0] W fun e w' => e = .returned (.int .i64 (Lib.bitLen 0 : Nat)) ∧ w' = W from Any.bits_Len (SlLaysF0.n15.bits (P := Tryz.prog) (ρ := Tryz.sortIt_ren) { Tryz.sortIt with }) 0 W (by omega) (by omega)))
 go_enter Tryz.func114, Tryz.ntmps114
 go_wp2_with (first
  | (go_at_call 141; refine (HB.out _).mono ?_; rintro e w' ⟨rfl, rfl⟩)
  | (go_at_call 144; refine (HP.out _ _).mono ?_; rintro e w' ⟨rfl, rfl⟩))
 go_end0
 exact ⟨rfl, rfl⟩
end
section
open Go Go.RowKit
attribute [local go_sem] Oper.semAt_some
abbrev TbH (W : World) (A : Option Addr) (n c : Nat) (hs : List (List UInt8 × Ct)) : Prop := TbV W A n c (tabP hs) hs.length
theorem prs_take {U : Tb} {i : Nat} {x : List UInt8 × List Ct} (h : U[i]? = some x) : prs (U.take (i + 1)) = prs (U.take i) ++ x.2.map fun c => (x.1, c) := by
 rw [List.take_add_one, h, prs_append]
 simp [prs]
theorem prs_take_le (U : Tb) (i : Nat) : (prs (U.take i)).length ≤ (prs U).length := by
 conv => rhs; rw [← List.take_append_drop i U]
 rw [prs_append, List.length_append]; omega
end
section
open Go Go.RowKit Go.Maps Go.Sort
attribute [local go_sem] Oper.semAt_some
theorem items_tab {hs : List (List UInt8 × Ct)} {T : Tb} (h1 : ∀ x ∈ T, csOf hs x.1 ≠ [] ∧ ∃ ys : List Ct, ys.Perm (csOf hs x.1) ∧ (ys.Pairwise fun a b => ¬ CLt b a) ∧ x.2 = dedP ys) (h2 : ∀ k, csOf hs k ≠ [] → ∃ l, (k, l) ∈ T) (h3 : T.Pairwise fun x y => sLt x.1 y.1 = true) : T = tabP hs := by
 have hR : Reg T := by
  refine ⟨h3, fun x hx => ?_, fun x hx => ?_⟩
  ·obtain ⟨h4, ys, h5, h6, h7⟩ := h1 x hx
   rw [h7]
   exact ded_ne fun e => h4 (by rw [e] at h5; exact List.Perm.nil_eq h5 ▸ rfl)
  ·obtain ⟨h4, ys, h5, h6, h7⟩ := h1 x hx
   rw [h7]; exact ded_rise _ h6
 refine tab_eq hR fun k c => ?_
 rw [← mem_csOf]
 constructor
 ·rintro ⟨l, hm, hc⟩
  obtain ⟨h4, ys, h5, h6, h7⟩ := h1 _ hm
  simp only at h7 h5
  rw [h7, ded_mem] at hc
  exact h5.mem_iff.1 hc
 ·intro hc
  have hne : csOf hs k ≠ [] := fun e => by rw [e] at hc; cases hc
  obtain ⟨l, hm⟩ := h2 k hne
  obtain ⟨h4, ys, h5, h6, h7⟩ := h1 _ hm
  simp only at h7 h5
  exact ⟨l, hm, by rw [h7, ded_mem]; exact h5.mem_iff.2 hc⟩
theorem key_inv {x : Value} {kl : Lit} (h : keyOf Tryz.prog 9 x = some kl) : ∃ s : List UInt8, x = .string ⟨s.toArray⟩ ∧ kl = .string s ∧ s.length ≤ maxLen := by
 obtain ⟨⟨s⟩, rfl, rfl, hs⟩ := WideMaps.string_of_keyOf Tryz.underlying9 h
 exact ⟨s.toList, by simp, rfl, by simpa [ByteArray.size] using hs⟩
theorem same_str (k s : List UInt8) : (Lit.string k).sameKey (.string s) = decide (k = s) := by
 rw [Bool.eq_iff_iff]; simp [Lit.sameKey]
def itS (x : ItV) : Value := .slice x.2.1 x.2.2.1 x.2.2.2
structure ItmG (B b r : Nat) (hs : List (List UInt8 × Ct)) (D : DV) : Prop where
 ap : ∀ k k' v v', k ≠ k' → csOf hs k ≠ [] → csOf hs k' ≠ [] → AtK D k v → AtK D k' v' → ∀ j, v.ownBlock = some j → v'.ownBlock ≠ some j
 lt : ∀ k v, csOf hs k ≠ [] → AtK D k v → ∀ j, v.ownBlock = some j → B ≤ j ∧ j < r
 bB : b < B
 Br : B ≤ r
structure ItmR (B b r n : Nat) (hs : List (List UInt8 × Ct)) (D : DV) (w : World) (left : Lit → Bool) (cnt : Nat) (out : Value) (its : List ItV) (W : World) : Prop where
 rg : W.ranges Tryz.prog 9 rV b r n D left cnt
 todo : ∀ k v, csOf hs k ≠ [] → left (.string k) = true → AtK D k v → kCt.own 69 W B (fun _ => False) v (csOf hs k)
 own : kIv.own 99 W (r + 1) (fun _ => False) out its
 done : ∀ x ∈ its, csOf hs x.1 ≠ [] ∧ left (.string x.1) = false ∧ (∀ v, AtK D x.1 v → v.ownBlock = (itS x).ownBlock) ∧ (∃ v, AtK D x.1 v) ∧ ∃ ys : List Ct, ys.Perm (csOf hs x.1) ∧ (ys.Pairwise fun a b => ¬ CLt b a) ∧ kCt.own 69 W B (fun _ => False) (itS x) (dedP ys)
 all : ∀ k, csOf hs k ≠ [] → left (.string k) = false → ∃ x ∈ its, x.1 = k
 nd : (its.map (·.1)).Nodup
 bel : Below B w W
theorem ItmR.len {B b r n : Nat} {hs : List (List UInt8 × Ct)} {D : DV} {w : World} {left : Lit → Bool} {cnt : Nat} {out : Value} {its : List ItV} {W : World} (h : ItmR B b r n hs D w left cnt out its W) : its.length ≤ hs.length := by
 have := nodup_sub_len (l := its.map (·.1)) (l' := hs.map (·.1)) h.nd fun k hk => by
  obtain ⟨x, hx, rfl⟩ := List.mem_map.1 hk
  obtain ⟨c, hc⟩ := List.exists_mem_of_ne_nil _ (h.done x hx).1
  exact List.mem_map.2 ⟨(x.1, c), (mem_csOf hs x.1 c).1 hc, rfl⟩
 simpa using this
theorem ItmR.step {B b r n : Nat} {hs : List (List UInt8 × Ct)} {D : DV} {w : World} {left : Lit → Bool} {cnt : Nat} {out : Value} {its : List ItV} {W : World} (G : ItmG B b r hs D) (h : ItmR B b r n hs D w left cnt out its W) (hn : hs.length ≤ 40000000)
  {s : List UInt8} {v : Value} (hsl : left (.string s) = true) (hcs : csOf hs s ≠ []) (hv : AtK D s v) {W1 W3 : World} {cnt1 : Nat} (hrg1 : W1.ranges Tryz.prog 9 rV b r n D (fun z => left z && !z.sameKey (.string s)) cnt1) (g1 : W.grownBy W1 (some r)) (g3 : W1.grownBy W3 v.ownBlock)
  {A : Option Addr} {m c : Nat} (hvb : (Value.slice A m c).ownBlock = v.ownBlock) {ys : List Ct} (hp : ys.Perm (csOf hs s)) (hpw : ys.Pairwise fun a b => ¬ CLt b a) (ho : kCt.own 69 W3 B (fun _ => False) (.slice A m c) (dedP ys)) :
  ∃ A' c' W4, (Builtin.append_ #[33, 33] 33 #[out, .slice (some ⟨W3.heap.size, 0, none⟩) 1 1]).run Tryz.prog (W3.alloc (.cells #[.string ⟨s.toArray⟩, .slice A m c] 99)) = .ok (.slice A' (its.length + 1) c') W4 ∧
   ItmR B b r n hs D w (fun z => left z && !z.sameKey (.string s)) cnt1 (.slice A' (its.length + 1) c') (its ++ [(s, A, m, c)]) W4 := by
 have hlt := G.lt s v hcs hv
 have hol := Lay.own_lt h.own
 have hrW := h.rg.lt
 have hlen := h.len
 have s13 : W.heap.size ≤ W3.heap.size := Nat.le_trans g1.size g3.size
 have k13 : ∀ j, j < W.heap.size → j ≠ r → v.ownBlock ≠ some j → W3.heap[j]? = W.heap[j]? := fun j hj h1 h2 =>
  (g3.block j (Nat.lt_of_lt_of_le hj g1.size) (fun e => h2 e.symm)).trans (g1.block j hj (fun e => h1 (Option.some.inj e)))
 have ho3 : kIv.own 99 W3 (r + 1) (fun _ => False) out its := Lay.own_keep h.own s13 fun j hj hjl => by
  rcases hj with hj | hj
  ·exact hj.elim
  ·have := hol j hj
   exact k13 j hjl (by omega) fun e => by have := hlt j e; omega
 obtain ⟨A', c', W4, run, o4, b4, k4, s4, n4⟩ := own_app1 (k := kIv) (Pr := Tryz.prog) (t := 33) (e := 99) Tryz.underlying33 info99 rfl (by decide) (by omega) ho3 (by omega) (cs := #[.string ⟨s.toArray⟩, .slice A m c]) (T := 99) (x := (s, A, m, c)) rfl 1 (by omega)
 have k14 : ∀ j, j < W.heap.size → j ≠ r → v.ownBlock ≠ some j → out.ownBlock ≠ some j → W4.heap[j]? = W.heap[j]? := fun j hj h1 h2 h3 => (k4 j (Nat.lt_of_lt_of_le hj s13) h3).trans (k13 j hj h1 h2)
 have g4 : W3.grownBy W4 out.ownBlock := ⟨(b4 0 (by omega)).os, (b4 0 (by omega)).tape, (b4 0 (by omega)).output, s4, fun i hi hne => k4 i hi fun e => hne e.symm⟩
 have hbv : some b ≠ v.ownBlock := fun e => by have := hlt b e.symm; have := G.bB; omega
 have hrv : some r ≠ v.ownBlock := fun e => by have := hlt r e.symm; omega
 have hbo : some b ≠ out.ownBlock := fun e => by have := hol b e.symm; have := G.bB; have := G.Br; omega
 have hro : some r ≠ out.ownBlock := fun e => by have := hol r e.symm; omega
 have keep : ∀ (u : Value) (cs : List Ct) (k' : List UInt8) (v' : Value), kCt.own 69 W B (fun _ => False) u cs → u.ownBlock = v'.ownBlock → csOf hs k' ≠ [] → AtK D k' v' → s ≠ k' → kCt.own 69 W4 B (fun _ => False) u cs := fun u cs k' v' hu e hc ha hne =>
  Lay.own_keep hu (Nat.le_trans s13 s4) fun j hj hjl => by
   rcases hj with hj | hj
   ·exact hj.elim
   ·rw [e] at hj
    have h5 := G.lt k' v' hc ha j hj
    exact k14 j hjl (by omega) (fun e9 => G.ap s k' v v' hne hcs hc hv ha j e9 hj) fun e9 => by have := hol j e9; omega
 refine ⟨A', c', W4, run, ⟨(hrg1.kept g3 hbv hrv).kept g4 hbo hro, fun k' v' hc hl ha => ?_, o4, fun x hx => ?_, fun k' hc hl => ?_, ?_, ?_⟩⟩
 ·simp only [same_str, Bool.and_eq_true, Bool.not_eq_true', decide_eq_false_iff_not] at hl
  exact keep v' _ k' v' (h.todo k' v' hc hl.1 ha) rfl hc ha (fun e => hl.2 e.symm)
 ·rcases List.mem_append.1 hx with hx | hx
  ·obtain ⟨d1, d2, d3, ⟨v', d4⟩, ys', d5, d6, d7⟩ := h.done x hx
   refine ⟨d1, by simp [d2], d3, ⟨v', d4⟩, ys', d5, d6, keep _ _ x.1 v' d7 (d3 v' d4).symm d1 d4 fun e => ?_⟩
   rw [← e, hsl] at d2; cases d2
  ·simp only [List.mem_singleton] at hx
   subst hx
   refine ⟨hcs, by simp [same_str], fun v' hv' => ?_, ⟨v, hv⟩, ys, hp, hpw, ?_⟩
   ·rw [AtK.one hv' hv]; exact hvb.symm
   ·refine Lay.own_keep (v := .slice A m c) ho s4 fun j hj hjl => ?_
    rcases hj with hj | hj
    ·exact hj.elim
    ·rw [hvb] at hj
     have := hlt j hj
     exact k4 j hjl fun e9 => by have := hol j e9; omega
 ·simp only [same_str, Bool.and_eq_false_iff, Bool.not_eq_false', decide_eq_true_eq] at hl
  by_cases e : k' = s
  ·exact ⟨(s, A, m, c), by simp, e.symm⟩
  ·obtain ⟨x, hx, hxk⟩ := h.all k' hc (hl.resolve_right e)
   exact ⟨x, List.mem_append_left _ hx, hxk⟩
 ·rw [List.map_append, List.nodup_append]
  refine ⟨h.nd, by simp, fun a ha b' hb' e => ?_⟩
  obtain ⟨x, hx, rfl⟩ := List.mem_map.1 ha
  simp only [List.map_cons, List.map_nil, List.mem_singleton] at hb'
  have := (h.done x hx).2.1
  rw [e, hb', hsl] at this
  cases this
 ·have b14 := b4 B (by have := G.Br; omega)
  refine ⟨b14.os.trans (g3.os.trans (g1.os.trans h.bel.os)), b14.tape.trans (g3.tape.trans (g1.tape.trans h.bel.tape)), b14.output.trans (g3.output.trans (g1.output.trans h.bel.output)), Nat.le_trans h.bel.size (Nat.le_trans s13 s4), fun j hj => ?_⟩
  have hjW : j < W.heap.size := by have := G.Br; omega
  exact (k14 j hjW (by have := G.Br; omega) (fun e => by have := hlt j e; omega) (fun e => by have := hol j e; have := G.Br; omega)).trans (h.bel.block j hj)
theorem itm_fin {B b r n : Nat} {hs : List (List UInt8 × Ct)} {D : DV} {w : World} {left : Lit → Bool} {cnt : Nat} {out : Value} {its its' : List ItV} {W W5 : World} (G : ItmG B b r hs D) (h : ItmR B b r n hs D w left cnt out its W) (hk : ∀ x ∈ hs, x.1.length ≤ 1000) (hl : ∀ kl, left kl = false)
  (hp : its'.Perm its) (hpw : its'.Pairwise fun a b => sLt b.1 a.1 = false) (ho : kIv.own 99 W5 (r + 1) (fun _ => False) out its') (g5 : W.grownBy W5 out.ownBlock) : ∃ A m c, out = .slice A m c ∧ TbH W5 A m c hs ∧ Below B w W5 := by
 have hol := Lay.own_lt h.own
 have hd : ∀ x ∈ its', csOf hs x.1 ≠ [] ∧ ∃ ys : List Ct, ys.Perm (csOf hs x.1) ∧ (ys.Pairwise fun a b => ¬ CLt b a) ∧ kCt.own 69 W5 B (fun _ => False) (itS x) (dedP ys) ∧ ∀ j, (itS x).ownBlock = some j → j < r := fun x hx => by
  obtain ⟨d1, d2, d3, ⟨v', d4⟩, ys, d5, d6, d7⟩ := h.done x (hp.mem_iff.1 hx)
  have hj : ∀ j, (itS x).ownBlock = some j → j < r := fun j hj => (G.lt x.1 v' d1 d4 j (by rw [d3 v' d4]; exact hj)).2
  refine ⟨d1, ys, d5, d6, Lay.own_keep d7 g5.size fun j hj' hjl => ?_, hj⟩
  rcases hj' with hj' | hj'
  ·exact hj'.elim
  ·exact g5.block j hjl fun e => by have := hol j e.symm; have := hj j hj'; omega
 have hex : ∀ x : ItV, ∃ ys : List Ct, x ∈ its' → ys.Perm (csOf hs x.1) ∧ (ys.Pairwise fun a b => ¬ CLt b a) ∧ kCt.own 69 W5 B (fun _ => False) (itS x) (dedP ys) := fun x => by
  by_cases hx : x ∈ its'
  ·obtain ⟨_, ys, a1, a2, a3, _⟩ := hd x hx
   exact ⟨ys, fun _ => ⟨a1, a2, a3⟩⟩
  ·exact ⟨[], fun h9 => absurd h9 hx⟩
 obtain ⟨f, hf⟩ : ∃ f : ItV → List Ct, ∀ x ∈ its', (f x).Perm (csOf hs x.1) ∧ ((f x).Pairwise fun a b => ¬ CLt b a) ∧ kCt.own 69 W5 B (fun _ => False) (itS x) (dedP (f x)) := ⟨fun x => (hex x).choose, fun x hx => (hex x).choose_spec hx⟩
 have hT : its'.map (fun x => (x.1, dedP (f x))) = tabP hs := by
  refine items_tab (fun y hy => ?_) (fun k hc => ?_) ?_
  ·obtain ⟨x, hx, rfl⟩ := List.mem_map.1 hy
   exact ⟨(hd x hx).1, f x, (hf x hx).1, (hf x hx).2.1, rfl⟩
  ·obtain ⟨x, hx, rfl⟩ := h.all k hc (hl _)
   exact ⟨_, List.mem_map.2 ⟨x, hp.mem_iff.2 hx, rfl⟩⟩
  ·rw [List.pairwise_map]
   have hnd : (its'.map (·.1)).Nodup := (hp.map (·.1)).nodup_iff.2 h.nd
   rw [List.nodup_iff_pairwise_ne, List.pairwise_map] at hnd
   exact (hpw.and hnd).imp fun {a b} ⟨h1, h2⟩ => (sLt_tri h2).resolve_right (by rw [h1]; simp)
 have hown : kIt.own 99 W5 (r + 1) (fun j => j < r) out (its'.map fun x => (x.1, dedP (f x))) := by
  obtain ⟨ds, h1, h2, h3⟩ := ho
  refine ⟨ds, h1, by rw [List.length_map]; exact h2, fun i d y hd' hy => ?_⟩
  rw [List.getElem?_map] at hy
  obtain ⟨x, hx, rfl⟩ := Option.map_eq_some_iff.1 hy
  have e : d.1 = itCs x := h3 i d x hd' hx
  have hxm := List.mem_of_getElem? hx
  obtain ⟨_, ys, _, _, _, hj⟩ := hd x hxm
  obtain ⟨k, A, m, c⟩ := x
  have ho9 := (hf _ hxm).2.2
  obtain ⟨A9, c9, e9, hc9, hr9⟩ := Lay.own_row ho9
  obtain ⟨e1, e2, e3⟩ := Value.slice.inj e9
  simp only at e1 e2 e3
  rw [← e1, ← e2] at hr9
  rw [← e2, ← e3] at hc9
  refine kIt_rep.2 ⟨_, _, _, e, hc9, Lay.row_mono hr9 fun j hj' _ => ?_⟩
  rcases hj' with hj' | hj'
  ·exact hj'.elim
  ·have := hj j hj'
   exact ⟨this, fun e => by have := hol j e; omega⟩
 obtain ⟨A, c, e, hc, hr⟩ := Lay.own_row hown
 rw [hT] at hr
 refine ⟨A, _, c, e, ⟨Lay.row_mono (by rw [← hT] at hr ⊢; exact hr) fun _ _ _ => trivial, hc, reg_tab hs, tab_len hs, fun x hx => ?_⟩, ?_⟩
 ·obtain ⟨c, hc⟩ := tab_key hx
  exact hk _ hc
 ·refine ⟨g5.os.trans h.bel.os, g5.tape.trans h.bel.tape, g5.output.trans h.bel.output, Nat.le_trans h.bel.size g5.size, fun j hj => (g5.block j (by have := h.rg.lt; have := G.Br; omega) fun e => by have := hol j e.symm; have := G.Br; omega).trans (h.bel.block j hj)⟩
theorem GMap.itmG {B b n : Nat} {hs : List (List UInt8 × Ct)} {D : DV} {W : World} (h : GMap B b n hs D W) (hB : B ≤ W.heap.size) : ItmG B b W.heap.size hs D :=
 ⟨h.ap, fun k v hc ha j hj => by
  obtain ⟨v', h1, h2⟩ := h.row k hc
  rw [AtK.one ha h1] at hj
  exact Lay.own_lt h2 j hj, h.lt, hB⟩
theorem GMap.itmR {B b n : Nat} {hs : List (List UInt8 × Ct)} {D : DV} {w W : World} (h : GMap B b n hs D w) (hB : B ≤ w.heap.size) {cnt : Nat} (hrg : W.ranges Tryz.prog 9 rV b w.heap.size n D (Maps.has D) cnt) (hg : w.grownBy W none) : ItmR B b w.heap.size n hs D w (Maps.has D) cnt (.slice none 0 0) [] W :=
 ⟨hrg, fun k v hc _ ha => by
  obtain ⟨v', h1, h2⟩ := h.row k hc
  rw [AtK.one ha h1]
  exact Lay.own_keep h2 hg.size fun j _ hjl => hg.block j hjl (by simp), Lay.own_nil _ _ _ _ _, fun x hx => (by cases hx), fun k hc hl => (by rw [(h.has k).2 hc] at hl; cases hl), .nil, ⟨hg.os, hg.tape, hg.output, hg.size, fun j hj => hg.block j (by omega) (by simp)⟩⟩
theorem sort_iall (w : World) (B : Nat) (v : Value) (xs : List ItV) (h : kIv.own 99 w B (fun _ => False) v xs) (hl : xs.length ≤ 100000000) :
  Calls Tryz.prog 114 #[v, .func (.func 115) #[] #[]] w fun e w' => e = .returned (.tuple #[]) ∧ ∃ ys, ys.Perm xs ∧ (ys.Pairwise fun a b => sLt b.1 a.1 = false) ∧ kIv.own 99 w' B (fun _ => False) v ys ∧ w.grownBy w' v.ownBlock := by
 by_cases hne : xs = []
 ·subst hne
  obtain ⟨A, c, rfl, _, _⟩ := Lay.own_row h
  refine (sort_none A c _ w).mono ?_
  rintro e w' ⟨rfl, rfl⟩
  exact ⟨rfl, [], List.Perm.refl _, .nil, h, ⟨rfl, rfl, rfl, Nat.le_refl _, fun _ _ _ => rfl⟩⟩
 ·exact sort_iown w B v xs h hne hl
theorem csOf_len (hs : List (List UInt8 × Ct)) (k : List UInt8) : (csOf hs k).length ≤ hs.length := List.length_filterMap_le _ _
set_option maxHeartbeats 4000000 in
set_option maxRecDepth 100000 in
theorem items_any (w : World) (B b n : Nat) (hs : List (List UInt8 × Ct)) (D : DV) (h : GMap B b n hs D w) (hB : B ≤ w.heap.size) (hn : hs.length ≤ 40000000) (hk : ∀ x ∈ hs, x.1.length ≤ 1000) :
  Calls Tryz.prog 57 #[.map (some b)] w fun e w' => ∃ A m c, e = .returned (.slice A m c) ∧ TbH w' A m c hs ∧ Below B w w' := by
 have HG := Hd (h.itmG hB)
 have HH := Hd h
 have hown := h.own
 clear h
 obtain ⟨r, hr⟩ : ∃ r, w.heap.size = r := ⟨_, rfl⟩
 go_enter Tryz.func57, Tryz.ntmps57
 go_wp2_with (first
  | (at_range; refine wpList_range_own _ rfl _ 105 rfl 9 38 lawS Tryz.underlying105 rV b n _ rfl hown ?_; intro w0 hrg0 hg0 hs0)
  | go_in)
 go_frame
 have HST := Hd (HH.out.itmR hB hrg0 hg0)
 rw [hr] at HG HST hrg0 hs0 ⊢
 clear hrg0 hg0 hs0 hown
 go_loopw [3] (fun s3 wr => ∃ (left : Lit → Bool) (cnt : Nat) (its : List ItV) (out : Value), out = s3 ∧ ItmR B b r n hs D w left cnt out its wr) (fun _ wr => wr.rangeLeft b r)
 case atStart => exact ⟨_, _, [], _, rfl, HST.out⟩
 obtain ⟨left, cnt, its, out, hout, hI⟩ := hrel
 subst hout
 have HI := Hd hI
 have hrg := hI.rg
 clear hI
 go_wp2_with (first
  | (at_next; refine wpList_next_ranges _ rfl _ rfl 9 lawS rV id id (fun key _ _ => ⟨key, rfl⟩) (fun v _ _ => ⟨v, rfl⟩) b r n _ _ _ rfl hrg ?_ ?_)
  | go_in)
 ·intro hc0 hl0
  have HS := Hd (sort_iall wr (r + 1) out its HI.out.own (by have := HI.out.len; omega))
  have HL0 := Hd hl0
  clear hl0 hrg
  go_wp2_with (first
   | (go_at_call 114; refine (HS.out).mono ?_; rintro e w5 ⟨rfl, its', hp, hpw, ho5, hg5⟩; have HE := Hd (itm_fin HG.out HI.out hk HL0.out hp hpw ho5 hg5); clear hp hpw ho5 hg5)
   | go_in)
  go_ret
  obtain ⟨A, m, c, e, h1, h2⟩ := HE.out
  exact ⟨A, m, c, by rw [← e]; rfl, h1, h2⟩
 ·intro x c kl yd yp w1 cnt1 hkey hlx hv hat hrg1 hlt hg1 hs1 hen
  obtain ⟨s, rfl, rfl, hsl⟩ := key_inv hkey
  have ha : AtK D s c := fun z => by
   rw [hat z]
   unfold rV at hv
   simp only [Option.some.injEq, Prod.mk.injEq] at hv
   exact hv.1.symm
  have hcs : csOf hs s ≠ [] := (HH.out.has s).1 (has_true_of_atKey hat)
  have hlen := csOf_len hs s
  have ho1 : kCt.own 69 w1 B (fun _ => False) c (csOf hs s) := Lay.own_keep (HI.out.todo s c hcs hlx ha) (by omega) fun j hj hjl => by
   rcases hj with hj | hj
   ·exact hj.elim
   ·have := HG.out.lt s c hcs ha j hj
    exact hg1.block j hjl (fun e => by have := Option.some.inj e; omega)
  have HSO := Hd (sort_own w1 B c (csOf hs s) ho1 hcs (by omega))
  have HSTEP := Hd (fun (W3 : World) (A : Option Addr) (m cc : Nat) (ys : List Ct) g3 hvb hp hpw ho => ItmR.step (W3 := W3) (A := A) (m := m) (c := cc) (ys := ys) HG.out HI.out hn hlx hcs ha hrg1 hg1 g3 hvb hp hpw ho)
  have HLT := Hd hlt
  have HYL := Hd (show ∀ ys : List Ct, ys.Perm (csOf hs s) → ys ≠ [] ∧ ys.length ≤ 100000000 from fun ys hp => ⟨fun e => hcs (by rw [e] at hp; exact List.Perm.nil_eq hp ▸ rfl), by rw [hp.length_eq]; omega⟩)
  clear ho1 hkey hv hat ha hcs hlen hlx hrg hrg1 hlt hg1 hs1
  go_wp2_with (first
   | (go_at_call 111; refine (HSO.out).mono ?_; rintro e w2 ⟨rfl, ys, hp, hpw, ho2, hg2⟩; have HC := Hd (compact_own w2 B c ys ho2 (HYL.out ys hp).1 (HYL.out ys hp).2); have HP := Hd hp; have HPW := Hd hpw; have HG2 := Hd hg2; clear hp hpw ho2 hg2)
   | (go_at_call 113; refine (HC.out).mono ?_; rintro e w3 ⟨v', rfl, hvb, ho3, hg3⟩; obtain ⟨A9, c9, rfl, _, _⟩ := Lay.own_row ho3; obtain ⟨A', c', w4, hrun, hst⟩ := HSTEP.out w3 A9 _ c9 ys (HG2.out.andThen hg3 fun j hj => .inr hj) hvb HP.out HPW.out ho3; have RUN := Hd hrun; have HST4 := Hd hst; clear hvb ho3 hg3 hrun hst)
   | (at_builtin; refine wpList_append_run (s := .tmp 15) (x := .tmp 20) RUN.out rfl rfl rfl rfl rfl ?_)
   | go_in)
  go_roundw
  case rel => exact ⟨_, cnt1, _, _, rfl, HST4.out⟩
  case measure => rw [HST4.out.rg.left_eq, HI.out.rg.left_eq]; exact HLT.out
end
end Go.Proofs.YtdbnddmncbjobaaGreatDoor