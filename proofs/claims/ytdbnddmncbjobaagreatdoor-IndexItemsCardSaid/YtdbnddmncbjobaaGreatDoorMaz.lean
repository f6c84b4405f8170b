/- The reference's place: walked. -/
import Derived.Test.YtdbnddmncbjobaaGreatDoorMay
namespace Go.Proofs.YtdbnddmncbjobaaGreatDoor
section
open Go Go.RowKit
attribute [local go_sem] Oper.semAt_some
theorem info69 : (Tryz.prog.info? 69).map (fun i => (i.zero, i.size, i.bytes)) = some (some (Value.agg #[.int .i64 0, .int .i64 0, .int .i64 0, .int .i64 0]), 4, 32) := by kernel_rfl
theorem place_skip : ∀ {l : List Ct} {x : Ct} (k : Nat), (∀ y ∈ l.take k, CLt y x) → placeP l x = l.take k ++ placeP (l.drop k) x
 | _, _, 0, _ => rfl
 | [], _, _ + 1, _ => rfl
 | y :: r, x, k + 1, h => by
  have h1 : CLt y x := h y (by simp)
  have ih := place_skip (l := r) (x := x) k fun z hz => h z (by simp [hz])
  simp only [placeP, if_pos h1, List.take_succ_cons, List.drop_succ_cons, List.cons_append, ih]
theorem place_here {l : List Ct} {x y : Ct} {k : Nat} (h : ∀ y ∈ l.take k, CLt y x) (hy : l[k]? = some y) (hn : ¬ CLt y x) : placeP l x = if y = x then l else l.take k ++ [x] ++ l.drop k := by
 rw [place_skip k h]
 obtain ⟨hk, rfl⟩ := List.getElem?_eq_some_iff.1 hy
 have e : l.drop k = l[k] :: l.drop (k + 1) := List.drop_eq_getElem_cons hk
 rw [e]
 simp only [placeP, if_neg hn]
 split
 ·rw [← e, List.take_append_drop]
 ·simp
theorem place_end {l : List Ct} {x : Ct} (h : ∀ y ∈ l, CLt y x) : placeP l x = l ++ [x] := by
 have := place_skip (l := l) (x := x) l.length (by rw [List.take_length]; exact h)
 rw [List.take_length, List.drop_length] at this
 exact this
theorem own_rowQ {β : Type} {k : Lay β} {e : TypeId} {W : World} {base : Nat} {P : Nat → Prop} {A : Option Addr} {n c : Nat} {xs : List β} (h : k.own e W base P (.slice A n c) xs) : n ≤ c ∧ k.row W (fun j => P j ∨ base ≤ j) A n xs := by
 obtain ⟨A', c', e1, h1, h2⟩ := Lay.own_row h
 have hlt := Lay.own_lt h
 obtain ⟨rfl, rfl, rfl⟩ := Value.slice.inj e1
 exact ⟨h1, Lay.row_mono h2 fun j hj _ => hj.imp id fun hj => (hlt j hj).1⟩
theorem row_A {β : Type} {k : Lay β} {W : World} {P : Nat → Prop} {A : Option Addr} {n : Nat} {xs : List β} (h : k.row W P A n xs) (e : A = none) : n = 0 := by
 subst e
 obtain ⟨ds, h1, h2, h3, _⟩ := h
 rcases Nat.eq_zero_or_pos n with h | h
 ·exact h
 ·obtain ⟨b, off, e, _⟩ := h3.2 h; cases e
theorem hi38 (A : Option Addr) (n c k : Nat) (hk : k ≤ n) (hn : n ≤ c) (hA : A = none → n = 0) (W : World) : (Instr.sliceAt 38 (.slice A n c) none (some (.int .i64 (k : Int))) none).run Tryz.prog W = .ok (.slice A k c) W := by
 have h1 : (k : Int) ≤ (c : Int) := by omega
 cases A with
 | none =>
  obtain rfl := hA rfl
  obtain rfl : k = 0 := by omega
  by_cases hc : c = 0
  ·subst hc; go_simp
  ·go_simp
 | some a =>
  by_cases hc : c = 0
  ·subst hc
   obtain rfl : k = 0 := by omega
   go_simp
  ·go_simp
theorem hi33 (A : Option Addr) (n c k : Nat) (hk : k ≤ n) (hn : n ≤ c) (hA : A = none → n = 0) (W : World) : (Instr.sliceAt 33 (.slice A n c) none (some (.int .i64 (k : Int))) none).run Tryz.prog W = .ok (.slice A k c) W := by
 have h1 : (k : Int) ≤ (c : Int) := by omega
 cases A with
 | none =>
  obtain rfl := hA rfl
  obtain rfl : k = 0 := by omega
  by_cases hc : c = 0
  ·subst hc; go_simp
  ·go_simp
 | some a =>
  by_cases hc : c = 0
  ·subst hc
   obtain rfl : k = 0 := by omega
   go_simp
  ·go_simp
theorem lo38 (A : Option Addr) (n c l : Nat) (hl : l ≤ n) (hn : n ≤ c) (hA : A = none → n = 0) (W : World) : (Instr.sliceAt 38 (.slice A n c) (some (.int .i64 (l : Int))) none none).run Tryz.prog W = .ok (.slice (A.map fun a => if c = l then a else a.add (l * 4)) (n - l) (c - l)) W := by
 have h1 : (l : Int) ≤ (n : Int) := by omega
 have h2 : (l : Int) ≤ (c : Int) := by omega
 cases A with
 | none =>
  obtain rfl := hA rfl
  obtain rfl : l = 0 := by omega
  by_cases hc : c = 0
  ·subst hc; go_simp
  ·go_simp
 | some a =>
  by_cases h : c = l
  ·subst h
   have : n = c := by omega
   subst this
   go_simp
  ·have h3 : ¬ l = c := fun e => h e.symm
   simp only [Option.map_some, if_neg h]
   go_simp
theorem lo33 (A : Option Addr) (n c l : Nat) (hl : l ≤ n) (hn : n ≤ c) (hA : A = none → n = 0) (W : World) : (Instr.sliceAt 33 (.slice A n c) (some (.int .i64 (l : Int))) none none).run Tryz.prog W = .ok (.slice (A.map fun a => if c = l then a else a.add (l * 2)) (n - l) (c - l)) W := by
 have h1 : (l : Int) ≤ (n : Int) := by omega
 have h2 : (l : Int) ≤ (c : Int) := by omega
 cases A with
 | none =>
  obtain rfl := hA rfl
  obtain rfl : l = 0 := by omega
  by_cases hc : c = 0
  ·subst hc; go_simp
  ·go_simp
 | some a =>
  by_cases h : c = l
  ·subst h
   have : n = c := by omega
   subst this
   go_simp
  ·have h3 : ¬ l = c := fun e => h e.symm
   simp only [Option.map_some, if_neg h]
   go_simp
theorem row_lo {β : Type} {k : Lay β} {W : World} {P : Nat → Prop} {A : Option Addr} {n c : Nat} {xs : List β} (h : k.row W P A n xs) (l : Nat) (hl : l ≤ n) (hc : n ≤ c) : k.row W P (A.map fun a => if c = l then a else a.add (l * k.sz)) (n - l) (xs.drop l) := by
 have hlen := Lay.row_len h
 by_cases h0 : n - l = 0
 ·rw [h0, List.drop_of_length_le (by omega)]
  obtain ⟨ds, _, _, _, h4, _⟩ := h
  refine ⟨[], rfl, rfl, ⟨rfl, fun h => absurd h (Nat.lt_irrefl _)⟩, fun x hx => ?_, fun i d x hd => by simp at hd⟩
  cases A with
  | none => cases hx
  | some a =>
   simp only [Option.map_some, Option.some.injEq] at hx
   subst hx
   have := h4 a rfl
   split
   ·exact this
   ·unfold Addr.add
    split <;> exact this
 ·obtain ⟨x, hx⟩ : ∃ x, xs[0]? = some x := ⟨_, List.getElem?_eq_getElem (by omega)⟩
  obtain ⟨b, off, cs, rfl, _⟩ := Lay.row_at h hx
  simp only [Option.map_some, if_neg (show ¬ c = l by omega)]
  have := Lay.row_drop h l
  unfold Addr.add
  by_cases h9 : l * k.sz = 0
  ·simpa [h9] using this
  ·simpa [h9] using this
theorem pl_runs (P : Nat → Prop) (w1 X : World) (l : List Ct) (x : Ct) (A : Option Addr) (n c k : Nat) (hr : kCt.row w1 P A n l) (hX : Ext w1 X) (hk : k ≤ n) (hc : n ≤ c) (hn : n ≤ 40000000) :
  ∃ A1 c1 w2, (Builtin.append_ #[38, 38] 38 #[.slice none 0 0, .slice A k c]).run Tryz.prog X = .ok (.slice A1 k c1) w2 ∧ Ext w1 w2 ∧
  ∃ A2 c2 w3, (Builtin.append_ #[38, 38] 38 #[.slice A1 k c1, .slice (some ⟨w2.heap.size, 0, none⟩) 1 1]).run Tryz.prog (w2.alloc (.cells #[.int .i64 x.br, .int .i64 x.nu, .int .i64 x.su, .int .i64 x.li] 69)) = .ok (.slice A2 (k + 1) c2) w3 ∧
  ∃ A3 c3 w4, (Builtin.append_ #[38, 38] 38 #[.slice A2 (k + 1) c2, .slice (A.map fun a => if c = k then a else a.add (k * 4)) (n - k) (c - k)]).run Tryz.prog w3 = .ok (.slice A3 (k + 1 + (n - k)) c3) w4 ∧ k + 1 + (n - k) ≤ c3 ∧
   kCt.row w4 (fun j => P j ∨ w1.heap.size ≤ j) A3 (k + 1 + (n - k)) (l.take k ++ [x] ++ l.drop k) ∧ Ext w1 w4 := by
 have hlen := Lay.row_len hr
 have ht : (l.take k).length = k := by rw [List.length_take]; omega
 obtain ⟨A1, c1, w2, r1, o1, x1⟩ := own_app (k := kCt) (Pr := Tryz.prog) (t := 38) (e := 69) Tryz.underlying38 info69 rfl (by decide) (by omega) (Lay.own_nil kCt 69 X w1.heap.size P) hX (Lay.row_take hr k hk) c (by simp; omega)
 simp only [List.length_nil, Nat.zero_add, List.nil_append] at r1 o1
 obtain ⟨A2, c2, w3, r2, o2, b2, _⟩ := own_app1 (k := kCt) (Pr := Tryz.prog) (t := 38) (e := 69) Tryz.underlying38 info69 rfl (by decide) (by omega) o1 x1.lt (cs := #[.int .i64 x.br, .int .i64 x.nu, .int .i64 x.su, .int .i64 x.li]) (T := 69) (x := x) (kCt_rep.2 rfl) 1 (by omega)
 rw [ht] at r2 o2
 have x2 : Ext w1 w3 := Below.trans x1 (b2 _ (Nat.le_refl _))
 obtain ⟨A3, c3, w4, r3, o3, x3⟩ := own_app (k := kCt) (Pr := Tryz.prog) (t := 38) (e := 69) Tryz.underlying38 info69 rfl (by decide) (by omega) o2 x2 (row_lo hr k hk hc) (c - k) (by simp; omega)
 have e3 : (l.take k ++ [x]).length = k + 1 := by simp [ht]
 rw [e3] at r3 o3
 obtain ⟨h9, h8⟩ := own_rowQ o3
 exact ⟨A1, c1, w2, r1, x1, A2, c2, w3, r2, A3, c3, w4, r3, h9, h8, x3⟩
def PlR (w1 : World) (l : List Ct) (x : Ct) (s5 : Value) (W : World) : Prop := ∃ k : Nat, k ≤ l.length ∧ s5 = .int .i64 k ∧ (∀ y ∈ l.take k, CLt y x) ∧ Ext w1 W
set_option maxHeartbeats 4000000 in
set_option maxRecDepth 100000 in
theorem placec_any (P : Nat → Prop) (w : World) (l : List Ct) (x : Ct) (A : Option Addr) (n c : Nat) (h : kCt.row w P A n l) (hc : n ≤ c) (hn : n ≤ 40000000) :
  Calls Tryz.prog 120 #[.slice A n c, ctV x] w fun e w' => ∃ A' n' c', e = .returned (.slice A' n' c') ∧ n' ≤ c' ∧ kCt.row w' (fun j => P j ∨ w.heap.size ≤ j) A' n' (placeP l x) ∧ Ext w w' := by
 have HL := Hd (Lay.row_len h)
 have HA := Hd (fun e => row_A h e)
 have HBF := Hd (fun (W : World) (y : Ct) => (show Calls Tryz.prog 71 #[.agg #[.int .i64 y.br, .int .i64 y.nu, .int .i64 y.su, .int .i64 y.li], .agg #[.int .i64 x.br, .int .i64 x.nu, .int .i64 x.su, .int .i64 x.li]] W fun e w' => e = .returned (.bool (decide (CLt y x))) ∧ Ext W w' from rbefore_any y x W))
 unfold ctV
 obtain ⟨z, hz⟩ : ∃ z, w.heap.size = z := ⟨_, rfl⟩
 obtain ⟨w1, hw1⟩ : ∃ w1, w.alloc (.cells #[.int .i64 x.br, .int .i64 x.nu, .int .i64 x.su, .int .i64 x.li] 69) = w1 := ⟨_, rfl⟩
 have hx1 : Ext w w1 := by rw [← hw1]; exact (Ext.refl w).alloc _
 have hB : w1.heap[z]? = some (.cells #[.int .i64 x.br, .int .i64 x.nu, .int .i64 x.su, .int .i64 x.li] 69 (0, 0)) := by rw [← hw1, ← hz]; exact heap_alloc_new _ _
 have hzl := lt_of_block hB
 have HQ := Hd (fun X (hX : Ext w1 X) => (show X.cell? ⟨z, 0, none⟩ = some (.int .i64 x.br) ∧ X.cell? ⟨z, 1, none⟩ = some (.int .i64 x.nu) ∧ X.cell? ⟨z, 2, none⟩ = some (.int .i64 x.su) ∧ X.cell? ⟨z, 3, none⟩ = some (.int .i64 x.li) from
  have h9 := (hX.block _ hzl).trans hB
  ⟨cof h9 (i := 0) rfl, cof h9 (i := 1) rfl, cof h9 (i := 2) rfl, cof h9 (i := 3) rfl⟩))
 have HR1 := Hd (Lay.row_ext h hx1)
 have HR := Hd (fun X (hX : Ext w1 X) => Lay.row_ext (Lay.row_ext h hx1) hX)
 have HX1 := Hd hx1
 have HZ := Hd (show w.heap.size ≤ w1.heap.size from hx1.lt)
 have HRW := Hd h
 clear h hx1 hB hzl
 go_enter Tryz.func120, Tryz.ntmps120
 go_upto_region 1 with (fail)
 clear hw1 hz
 go_wp2_with fail
 go_loopw [5] (fun s5 W => PlR w1 l x s5 W) (fun s5 _ => toM n s5)
 case atStart => exact ⟨0, by omega, rfl, by simp, Ext.refl _⟩
 obtain ⟨k, hk, rfl, hp, hxr⟩ := hrel
 rw [← HL.out] at hk
 have HP := Hd hp
 have HX := Hd hxr
 clear hp hxr
 obtain ⟨T, hT⟩ : ∃ T : Bool, (match l[k]? with | some y => decide (CLt y x) | none => false) = T := ⟨_, rfl⟩
 have HT := Hd hT
 clear hT
 go_upto_region 2 with (fail)
 go_cut [18] (fun s18 wx => s18 = .bool T ∧ Ext w1 wx)
 case first =>
  by_cases hkn : k < n
  case neg =>
   have hkn' : ¬ ((k : Int) < (n : Int)) := by omega
   have hknb : decide ((k : Int) < (n : Int)) = false := decide_eq_false hkn'
   have hTf : T = false := by rw [← HT.out, List.getElem?_eq_none (by have := HL.out; omega)]
   subst hTf
   go_quiet (fail)
   go_wp2
   go_meet
   case rel => exact ⟨rfl, HX.out.drewN _⟩
  have hkI : (k : Int) < (n : Int) := by omega
  obtain ⟨y, hy⟩ : ∃ y, l[k]? = some y := ⟨_, List.getElem?_eq_getElem (by have := HL.out; omega)⟩
  obtain ⟨b, off, rfl, hb, _, a0, a1, a2, a3⟩ := ct_at (HR.out _ HX.out) hy
  have hTe : decide (CLt y x) = T := by have := HT.out; rw [hy] at this; exact this
  have HBY := Hd (fun W => HBF.out W y)
  rw [hTe] at HBY
  have HQ2 := Hd (fun X (hX : Ext wr X) => (show (X.cell? ⟨z, 0, none⟩ = some (.int .i64 x.br) ∧ X.cell? ⟨z, 1, none⟩ = some (.int .i64 x.nu) ∧ X.cell? ⟨z, 2, none⟩ = some (.int .i64 x.su) ∧ X.cell? ⟨z, 3, none⟩ = some (.int .i64 x.li)) ∧
    X.cell? ⟨b, off + k * 4, none⟩ = some (.int .i64 y.br) ∧ X.cell? ⟨b, off + k * 4 + 1, none⟩ = some (.int .i64 y.nu) ∧ X.cell? ⟨b, off + k * 4 + 2, none⟩ = some (.int .i64 y.su) ∧ X.cell? ⟨b, off + k * 4 + 3, none⟩ = some (.int .i64 y.li) from
   ⟨HQ.out X (HX.out.trans hX), (hX.cells.1 b _ hb).trans a0, (hX.cells.1 b _ hb).trans a1, (hX.cells.1 b _ hb).trans a2, (hX.cells.1 b _ hb).trans a3⟩))
  clear a0 a1 a2 a3 hy hTe
  have hcur : Ext wr wr.drew := (Ext.refl _).drew
  go_region_held3 (fun X => (X.cell? ⟨z, 0, none⟩ = some (.int .i64 x.br) ∧ X.cell? ⟨z, 1, none⟩ = some (.int .i64 x.nu) ∧ X.cell? ⟨z, 2, none⟩ = some (.int .i64 x.su) ∧ X.cell? ⟨z, 3, none⟩ = some (.int .i64 x.li)) ∧
    X.cell? ⟨b, off + k * 4, none⟩ = some (.int .i64 y.br) ∧ X.cell? ⟨b, off + k * 4 + 1, none⟩ = some (.int .i64 y.nu) ∧ X.cell? ⟨b, off + k * 4 + 2, none⟩ = some (.int .i64 y.su) ∧ X.cell? ⟨b, off + k * 4 + 3, none⟩ = some (.int .i64 y.li))
   (exact HQ2.out _ hcur) (first | (go_at_call 71; refine (HBY.out _).mono ?_; rintro e w9 ⟨rfl, hx9⟩; have hcur := hcur.trans hx9))
  all_goals
   go_wp2
   go_meet
   case rel => exact ⟨rfl, HX.out.trans hcur⟩
 obtain ⟨rfl, hxc⟩ := hcut
 have HXC := Hd hxc
 clear hxc HX
 cases T with
 | true =>
  have hkn : k < n := by
   rcases Nat.lt_or_ge k n with h9 | h9
   ·exact h9
   ·have := HT.out; rw [List.getElem?_eq_none (by have := HL.out; omega)] at this; cases this
  have HNX := Hd (show ∀ y ∈ l.take (k + 1), CLt y x from by
   obtain ⟨y, hy⟩ : ∃ y, l[k]? = some y := ⟨_, List.getElem?_eq_getElem (by have := HL.out; omega)⟩
   have h9 := HT.out
   rw [hy] at h9
   intro y' hy'
   rw [List.take_add_one, hy] at hy'
   rcases List.mem_append.1 hy' with h8 | h8
   ·exact HP.out y' h8
   ·simp only [Option.toList_some, List.mem_singleton] at h8
    subst h8; simpa using h9)
  go_wp2_with fail
  go_roundw
  case rel => exact ⟨k + 1, by have := HL.out; omega, by go_num, HNX.out, HXC.out⟩
  case measure => simp only [toM]; omega
 | false =>
  have HFN := Hd (fun X (hX : Ext w1 X) => pl_runs P w1 X l x A n c k HR1.out hX hk hc hn)
  have hs1 := fun W => hi38 A n c k hk hc HA.out W
  have hs2 := fun W => lo38 A n c k hk hc HA.out W
  generalize (A.map fun a => if c = k then a else a.add (k * 4)) = B at HFN hs2
  generalize c - k = ck at HFN hs2
  generalize n - k = nk at HFN hs2
  by_cases hkn : k < n
  ·obtain ⟨y, hy⟩ : ∃ y, l[k]? = some y := ⟨_, List.getElem?_eq_getElem (by have := HL.out; omega)⟩
   have hny : ¬ CLt y x := by have := HT.out; rw [hy] at this; simpa using this
   have HPL := Hd (place_here HP.out hy hny)
   obtain ⟨b, off, rfl, hb, _, a0, a1, a2, a3⟩ := ct_at (HR.out _ HXC.out) hy
   obtain ⟨q0, q1, q2, q3⟩ := HQ.out _ HXC.out
   have hkI : (k : Int) < (n : Int) := by omega
   clear hy hny
   by_cases hyx : y = x
   ·have d : ∀ W, (binOp .eql 69 (.agg #[.int .i64 y.br, .int .i64 y.nu, .int .i64 y.su, .int .i64 y.li]) (.agg #[.int .i64 x.br, .int .i64 x.nu, .int .i64 x.su, .int .i64 x.li])).run Tryz.prog W = .ok (.bool true) W := fun W => by
     have := eql_ct y x W; rw [decide_eq_true hyx] at this; exact this
    have HPE := Hd (HPL.out.trans (if_pos hyx))
    clear hyx hs1 hs2
    go_upto_region 4 with (fail)
    go_quiet (fail)
    go_wp2_with fail
    go_ret
    refine ⟨_, n, c, rfl, hc, ?_, HX1.out.trans (HXC.out.drewN _)⟩
    rw [HPE.out]
    exact Lay.row_mono (HR.out _ (HXC.out.drewN _)) fun j hj _ => .inl hj
   ·have d : ∀ W, (binOp .eql 69 (.agg #[.int .i64 y.br, .int .i64 y.nu, .int .i64 y.su, .int .i64 y.li]) (.agg #[.int .i64 x.br, .int .i64 x.nu, .int .i64 x.su, .int .i64 x.li])).run Tryz.prog W = .ok (.bool false) W := fun W => by
     have := eql_ct y x W; rw [decide_eq_false hyx] at this; exact this
    have HPE := Hd (HPL.out.trans (if_neg hyx))
    clear hyx
    go_upto_region 4 with (fail)
    go_quiet (fail)
    obtain ⟨A1, c1, w2, r1, x2, A2, c2, w3, r2, A3, c3, w4, r3, hc3, hrow, x4⟩ := HFN.out _ (HXC.out.drewN nq)
    have R1 := Hd r1
    have R2 := Hd r2
    have R3 := Hd r3
    clear r1 r2 r3 q0 q1 q2 q3
    obtain ⟨q0, q1, q2, q3⟩ := HQ.out _ x2
    have HRO := Hd hrow
    have HX4 := Hd x4
    clear hrow x2 x4
    go_wp2_with (first
     | (at_builtin; refine wpList_append_run (s := .tmp 34) (x := .tmp 37) R1.out rfl rfl rfl rfl rfl ?_)
     | (at_builtin; refine wpList_append_run (s := .tmp 39) (x := .tmp 41) R2.out rfl rfl rfl rfl rfl ?_)
     | (at_builtin; refine wpList_append_run (s := .tmp 43) (x := .tmp 46) R3.out rfl rfl rfl rfl rfl ?_))
    go_ret
    refine ⟨A3, _, c3, rfl, hc3, ?_, HX1.out.trans HX4.out⟩
    rw [HPE.out]
    exact Lay.row_mono HRO.out fun j hj _ => hj.imp id (Nat.le_trans HZ.out)
  ·obtain rfl : k = n := by omega
   have hkn' : ¬ ((k : Int) < (k : Int)) := by omega
   have hknb : decide ((k : Int) < (k : Int)) = false := decide_eq_false hkn'
   have HPE := Hd (show placeP l x = l.take k ++ [x] ++ l.drop k from by
    have hp := HP.out
    rw [HL.out, List.take_length] at hp
    rw [HL.out, List.take_length, List.drop_length, List.append_nil]
    exact place_end hp)
   go_upto_region 4 with (fail)
   go_quiet (fail)
   obtain ⟨A1, c1, w2, r1, x2, A2, c2, w3, r2, A3, c3, w4, r3, hc3, hrow, x4⟩ := HFN.out _ (HXC.out.drewN nq)
   have R1 := Hd r1
   have R2 := Hd r2
   have R3 := Hd r3
   clear r1 r2 r3
   obtain ⟨q0, q1, q2, q3⟩ := HQ.out _ x2
   have HRO := Hd hrow
   have HX4 := Hd x4
   clear hrow x2 x4
   go_wp2_with (first
    | (at_builtin; refine wpList_append_run (s := .tmp 34) (x := .tmp 37) R1.out rfl rfl rfl rfl rfl ?_)
    | (at_builtin; refine wpList_append_run (s := .tmp 39) (x := .tmp 41) R2.out rfl rfl rfl rfl rfl ?_)
    | (at_builtin; refine wpList_append_run (s := .tmp 43) (x := .tmp 46) R3.out rfl rfl rfl rfl rfl ?_))
   go_ret
   refine ⟨A3, _, c3, rfl, hc3, ?_, HX1.out.trans HX4.out⟩
   rw [HPE.out]
   exact Lay.row_mono HRO.out fun j hj _ => hj.imp id (Nat.le_trans HZ.out)
end
section
open Go Go.RowKit
attribute [local go_sem] Oper.semAt_some
def seaCs (s : Sea) : List Value := [.int .i64 s.ent, .int .i64 s.ver, .int .i64 s.fr, .int .i64 s.un, .int .i64 s.gr]
def kSea : Lay Sea where
 sz := 5
 rep _ _ s cs := cs = seaCs s
 len h := by subst h; rfl
 one h := by subst h; intro u hu; simp only [seaCs, List.mem_cons, List.not_mem_nil, or_false] at hu; rcases hu with rfl | rfl | rfl | rfl | rfl <;> rfl
 keep h _ _ := h
 mono h _ := h
theorem info48 : (Tryz.prog.info? 48).map (fun i => (i.zero, i.size, i.bytes)) = some (some (Value.agg #[.int .i64 0, .int .i64 0, .int .i64 0, .int .i64 0, .int .i64 0]), 5, 40) := by kernel_rfl
theorem sea_at {W : World} {P : Nat → Prop} {A : Option Addr} {n : Nat} {xs : List Sea} (h : kSea.row W P A n xs) {i : Nat} {x : Sea} (hi : xs[i]? = some x) :
  ∃ b off, A = some ⟨b, off, none⟩ ∧ b < W.heap.size ∧ W.cell? ⟨b, off + i * 5, none⟩ = some (.int .i64 x.ent) ∧ W.cell? ⟨b, off + i * 5 + 1, none⟩ = some (.int .i64 x.ver) ∧ W.cell? ⟨b, off + i * 5 + 2, none⟩ = some (.int .i64 x.fr) ∧ W.cell? ⟨b, off + i * 5 + 3, none⟩ = some (.int .i64 x.un) ∧ W.cell? ⟨b, off + i * 5 + 4, none⟩ = some (.int .i64 x.gr) := by
 obtain ⟨b, off, cs, rfl, hb, _, hrep, hc⟩ := Lay.row_at h hi
 have e : cs = seaCs x := hrep
 subst e
 exact ⟨b, off, rfl, hb, hc 0 _ rfl, hc 1 _ rfl, hc 2 _ rfl, hc 3 _ rfl, hc 4 _ rfl⟩
set_option maxHeartbeats 4000000 in
set_option maxRecDepth 100000 in
theorem clo75 (X : World) (z1 z2 z3 : Nat) (e v k : Int) (s : Sea) (h1 : X.cell? ⟨z1, 0, none⟩ = some (.int .i64 e)) (h2 : X.cell? ⟨z2, 0, none⟩ = some (.int .i64 v)) (h3 : X.cell? ⟨z3, 0, none⟩ = some (.int .i64 k)) :
  Calls Tryz.prog 75 #[.agg #[.int .i64 s.ent, .int .i64 s.ver, .int .i64 s.fr, .int .i64 s.un, .int .i64 s.gr], .pointer (some ⟨z1, 0, none⟩), .pointer (some ⟨z2, 0, none⟩), .pointer (some ⟨z3, 0, none⟩)] X (fun z X' => z = .returned (.bool (covS s e v k)) ∧ Ext X X') := by
 obtain ⟨s0, s1, s2, s3, s4⟩ := s
 have hx : Ext X (X.alloc (.cells #[.int .i64 s0, .int .i64 s1, .int .i64 s2, .int .i64 s3, .int .i64 s4] 48)) := (Ext.refl X).alloc _
 have HX := Hd hx
 obtain ⟨r, hr⟩ : ∃ r, covS ⟨s0, s1, s2, s3, s4⟩ e v k = r := ⟨_, rfl⟩
 rw [hr]
 unfold covS at hr
 simp only at hr
 have c1 := fun o => (((Ext.refl X).alloc o).cells.1 z1 0 (World.block_lt_of_cell? _ _ h1)).trans h1
 have c2 := fun o => (((Ext.refl X).alloc o).cells.1 z2 0 (World.block_lt_of_cell? _ _ h2)).trans h2
 have c3 := fun o => (((Ext.refl X).alloc o).cells.1 z3 0 (World.block_lt_of_cell? _ _ h3)).trans h3
 clear hx
 by_cases g1 : s0 = e
 ·have b1 : (s0 == e) = true := by simpa using g1
  by_cases g2 : s1 = v
  ·have b2 : (s1 == v) = true := by simpa using g2
   by_cases g3 : s2 ≤ k
   ·have b3 : decide (s2 ≤ k) = true := by simpa using g3
    have HR := Hd (show r = decide (k < s3) by rw [← hr]; simp [g1, g2, g3])
    clear hr g1 g2 g3
    go_enter Tryz.func75, Tryz.ntmps75
    go_wp2_with fail
    go_ret
    exact ⟨by rw [HR.out]; rfl, HX.out⟩
   ·have b3 : decide (s2 ≤ k) = false := by simpa using g3
    have HR := Hd (show r = false by rw [← hr]; simp [g1, g2, g3])
    clear hr g1 g2 g3
    go_enter Tryz.func75, Tryz.ntmps75
    go_wp2_with fail
    go_ret
    exact ⟨by rw [HR.out]; rfl, HX.out⟩
  ·have b2 : (s1 == v) = false := by simpa using g2
   have HR := Hd (show r = false by rw [← hr]; simp [g1, g2])
   clear hr g1 g2
   go_enter Tryz.func75, Tryz.ntmps75
   go_wp2_with fail
   go_ret
   exact ⟨by rw [HR.out]; rfl, HX.out⟩
 ·have b1 : (s0 == e) = false := by simpa using g1
  have HR := Hd (show r = false by rw [← hr]; simp [g1])
  clear hr g1
  go_enter Tryz.func75, Tryz.ntmps75
  go_wp2_with fail
  go_ret
  exact ⟨by rw [HR.out]; rfl, HX.out⟩
def SeR (w : World) (p : Sea → Bool) (l : List Sea) (s5 s10 : Value) (W : World) : Prop := ∃ (i : Nat) (A : Option Addr) (c : Nat), i ≤ l.length ∧ s10 = .int .i64 i ∧ s5 = .slice A ((l.take i).filter p).length c ∧ kSea.own 48 W w.heap.size (fun _ => False) s5 ((l.take i).filter p) ∧ Ext w W
theorem sea_app {w X : World} {A : Option Addr} {m c : Nat} {xs : List Sea} (h : kSea.own 48 X w.heap.size (fun _ => False) (.slice A m c) xs) (hm : m = xs.length) (hx : Ext w X) (x : Sea) (hl : m ≤ 1000000) :
  ∃ A' c' w', (Builtin.append_ #[28, 28] 28 #[.slice A m c, .slice (some ⟨X.heap.size, 0, none⟩) 1 1]).run Tryz.prog (X.alloc (.cells #[.int .i64 x.ent, .int .i64 x.ver, .int .i64 x.fr, .int .i64 x.un, .int .i64 x.gr] 48)) = .ok (.slice A' (m + 1) c') w' ∧ kSea.own 48 w' w.heap.size (fun _ => False) (.slice A' (m + 1) c') (xs ++ [x]) ∧ Ext w w' := by
 subst hm
 obtain ⟨A', c', w', r1, r2, r3, _⟩ := own_app1 (k := kSea) (Pr := Tryz.prog) (t := 28) (e := 48) Tryz.underlying28 info48 rfl (by decide) (by omega) h hx.lt (cs := #[.int .i64 x.ent, .int .i64 x.ver, .int .i64 x.fr, .int .i64 x.un, .int .i64 x.gr]) (T := 48) (x := x) rfl 1 (by omega)
 exact ⟨A', c', w', r1, r2, Below.trans hx (r3 _ (Nat.le_refl _))⟩
set_option maxHeartbeats 4000000 in
set_option maxRecDepth 100000 in
theorem selected_any (P : Nat → Prop) (w : World) (A : Option Addr) (n c : Nat) (l : List Sea) (p : Sea → Bool) (p1 p2 p3 : Value) (h : kSea.row w P A n l) (hn : n ≤ 1000000)
  (hc : ∀ X (s : Sea), Ext w X → Calls Tryz.prog 75 #[.agg #[.int .i64 s.ent, .int .i64 s.ver, .int .i64 s.fr, .int .i64 s.un, .int .i64 s.gr], p1, p2, p3] X (fun z X' => z = .returned (.bool (p s)) ∧ Ext X X')) :
  Calls Tryz.prog 74 #[.slice A n c, .func (.func 75) #[] #[p1, p2, p3]] w fun e w' => ∃ A' c', e = .returned (.slice A' (l.filter p).length c') ∧ kSea.row w' (fun j => w.heap.size ≤ j) A' (l.filter p).length (l.filter p) ∧ Ext w w' := by
 have HL := Hd (Lay.row_len h)
 have HR := Hd h
 have HC := Hd hc
 clear h hc
 go_enter Tryz.func74, Tryz.ntmps74
 go_wp2_with fail
 go_loopw [5, 10] (fun s5 s10 W => SeR w p l s5 s10 W) (fun _ s10 _ => toM n s10)
 case atStart => exact ⟨0, none, 0, by omega, rfl, rfl, Lay.own_nil _ _ _ _ _, Ext.refl _⟩
 obtain ⟨i, A1, c1, hi, rfl, rfl, ho, hx⟩ := hrel
 rw [← HL.out] at hi
 have HO := Hd ho
 have HX := Hd hx
 clear ho hx
 have hw1 : IntKind.i64.wrap ((i : Int) + 1) = (i : Int) + 1 := IntWalk.i64_in _ (by omega)
 have hml : ((l.take i).filter p).length ≤ i := Nat.le_trans (List.length_filter_le _ _) (by rw [List.length_take]; exact Nat.min_le_left _ _)
 obtain ⟨m, hm⟩ : ∃ m, ((l.take i).filter p).length = m := ⟨_, rfl⟩
 rw [hm] at HO hml ⊢
 have HM := Hd hm.symm
 clear hm
 by_cases hlt : i < n
 case neg =>
  have hni : ¬ ((i : Int) < (n : Int)) := by omega
  have HF := Hd (show l.take i = l from List.take_of_length_le (by have := HL.out; omega))
  go_wp2_with fail
  go_ret
  have ho9 := HO.out
  have hm9 := HM.out
  rw [HF.out] at ho9 hm9
  subst hm9
  obtain ⟨_, hr9⟩ := own_rowQ ho9
  exact ⟨A1, ⟨c1, rfl⟩, Lay.row_mono hr9 fun j hj _ => hj.elim False.elim id, HX.out⟩
 have hI : (i : Int) < (n : Int) := by omega
 obtain ⟨s, hs⟩ : ∃ s, l[i]? = some s := ⟨_, List.getElem?_eq_getElem (by have := HL.out; omega)⟩
 obtain ⟨b, off, rfl, hb, a0, a1, a2, a3, a4⟩ := sea_at (Lay.row_ext HR.out HX.out) hs
 have y0 := fun o => (((Ext.refl wr).alloc o).cells.1 b _ hb).trans a0
 have y1 := fun o => (((Ext.refl wr).alloc o).cells.1 b _ hb).trans a1
 have y2 := fun o => (((Ext.refl wr).alloc o).cells.1 b _ hb).trans a2
 have y3 := fun o => (((Ext.refl wr).alloc o).cells.1 b _ hb).trans a3
 have y4 := fun o => (((Ext.refl wr).alloc o).cells.1 b _ hb).trans a4
 obtain ⟨z, hz⟩ : ∃ z, wr.heap.size = z := ⟨_, rfl⟩
 obtain ⟨w2, hw2⟩ : ∃ w2, wr.alloc (.cells #[.int .i64 s.ent, .int .i64 s.ver, .int .i64 s.fr, .int .i64 s.un, .int .i64 s.gr] 48) = w2 := ⟨_, rfl⟩
 have hx2 : Ext wr w2 := by rw [← hw2]; exact (Ext.refl wr).alloc _
 have hB : w2.heap[z]? = some (.cells #[.int .i64 s.ent, .int .i64 s.ver, .int .i64 s.fr, .int .i64 s.un, .int .i64 s.gr] 48 (0, 0)) := by rw [← hw2, ← hz]; exact heap_alloc_new _ _
 have HB := Hd hB
 have HX2 := Hd (HX.out.trans hx2)
 have HXW := Hd hx2
 have e0 := cof hB (i := 0) rfl
 have e1 := cof hB (i := 1) rfl
 have e2 := cof hB (i := 2) rfl
 have e3 := cof hB (i := 3) rfl
 have e4 := cof hB (i := 4) rfl
 have HCC := Hd (HC.out w2 s HX2.out)
 have hts : l.take (i + 1) = l.take i ++ [s] := by rw [List.take_add_one, hs]; rfl
 cases hp : p s with
 | false =>
  have HST := Hd (show (l.take (i + 1)).filter p = (l.take i).filter p by rw [hts, List.filter_append]; simp [hp])
  rw [hp] at HCC
  clear hts hp hs hx2 hB
  go_wp2_with (first | (go_at_call 75; refine (HCC.out).mono ?_; rintro e w3 ⟨rfl, hx3⟩; have HX3 := Hd hx3; clear hx3))
  go_roundw
  case rel => exact ⟨i + 1, A1, c1, by have := HL.out; omega, by go_num, by rw [HST.out, ← HM.out], by rw [HST.out]; exact Lay.own_ext HO.out (HXW.out.trans HX3.out), HX2.out.trans HX3.out⟩
  case measure => simp only [toM]; omega
 | true =>
  have HST := Hd (show (l.take (i + 1)).filter p = (l.take i).filter p ++ [s] by rw [hts, List.filter_append]; simp [hp])
  rw [hp] at HCC
  clear hts hp hs hx2 hB e0 e1 e2 e3 e4
  have e0 := cof HB.out (i := 0) rfl
  have e1 := cof HB.out (i := 1) rfl
  have e2 := cof HB.out (i := 2) rfl
  have e3 := cof HB.out (i := 3) rfl
  have e4 := cof HB.out (i := 4) rfl
  go_upto_region 6 with (first | (go_at_call 75; refine (HCC.out).mono ?_; rintro e w3 ⟨rfl, hx3⟩; have HX3 := Hd hx3; clear hx3))
  clear e0 e1 e2 e3 e4
  have hB3 := (HX3.out.block _ (lt_of_block HB.out)).trans HB.out
  have e0 := cof hB3 (i := 0) rfl
  have e1 := cof hB3 (i := 1) rfl
  have e2 := cof hB3 (i := 2) rfl
  have e3 := cof hB3 (i := 3) rfl
  have e4 := cof hB3 (i := 4) rfl
  obtain ⟨A', c', w4, hrun, ho4, hx4⟩ := sea_app (Lay.own_ext HO.out (HXW.out.trans HX3.out)) HM.out (HX2.out.trans HX3.out) s (by omega)
  have RUN := Hd hrun
  have HO4 := Hd ho4
  have HX4 := Hd hx4
  clear hrun ho4 hx4 hB3
  go_wp2_with (first | (at_builtin; refine wpList_append_run (s := .tmp 17) (x := .tmp 19) RUN.out rfl rfl rfl rfl rfl ?_))
  go_roundw
  case rel => exact ⟨i + 1, A', c', by have := HL.out; omega, by go_num, by rw [HST.out, List.length_append, ← HM.out]; rfl, by rw [HST.out]; exact HO4.out, HX4.out⟩
  case measure => simp only [toM]; omega
theorem or_pos {g : Int} {r : Nat} (h0 : 0 ≤ g) (h1 : g ≤ 65535) (hr : r ≤ 15) : ∃ g' : Int, 0 < g' ∧ g' ≤ 65535 ∧ bits BinOp.or IntKind.i64 g (2 ^ r) = g' := by
 obtain ⟨a, rfl⟩ : ∃ a : Nat, g = a := ⟨g.toNat, by omega⟩
 have ha : a < 2 ^ 16 := by omega
 have hb : 2 ^ r < 2 ^ 16 := Nat.pow_lt_pow_right (by omega) (by omega)
 have e1 : (BitVec.ofInt 64 (a : Int)).toNat = a := by
  rw [BitVec.ofInt_natCast, BitVec.toNat_ofNat]; exact Nat.mod_eq_of_lt (by omega)
 have e2 : (BitVec.ofInt 64 (2 ^ r : Int)).toNat = 2 ^ r := by
  rw [show (2 ^ r : Int) = ((2 ^ r : Nat) : Int) by simp, BitVec.ofInt_natCast, BitVec.toNat_ofNat]; exact Nat.mod_eq_of_lt (by omega)
 have e3 : (BitVec.ofInt 64 (a : Int) ||| BitVec.ofInt 64 (2 ^ r)).toNat = a ||| 2 ^ r := by rw [BitVec.toNat_or, e1, e2]
 have h3 : a ||| 2 ^ r < 2 ^ 16 := Nat.or_lt_two_pow ha hb
 have h4 : 2 ^ r ≤ a ||| 2 ^ r := Nat.right_le_or
 have h5 : 0 < 2 ^ r := Nat.pow_pos (by omega)
 refine ⟨((a ||| 2 ^ r : Nat) : Int), by omega, by omega, ?_⟩
 show IntKind.i64.wrap (((BitVec.ofInt 64 (a : Int) ||| BitVec.ofInt 64 (2 ^ r)).toNat : Nat) : Int) = _
 rw [e3]
 exact IntWalk.i64_in _ (by omega)
def GrR (w : World) (l : List Sea) (s9 s16 : Value) (W : World) : Prop := ∃ (i : Nat) (g : Int), i ≤ l.length ∧ s16 = .int .i64 i ∧ s9 = .int .i64 g ∧ 0 ≤ g ∧ g ≤ 65535 ∧ (g = 0 ↔ i = 0) ∧ Ext w W
set_option maxHeartbeats 4000000 in
set_option maxRecDepth 100000 in
theorem groups_any (P : Nat → Prop) (w : World) (A : Option Addr) (n c : Nat) (l : List Sea) (e v k : Int) (h : kSea.row w P A n l) (hn : n ≤ 1000000) (hg : ∀ s ∈ l, 0 ≤ s.gr ∧ s.gr ≤ 15) :
  Calls Tryz.prog 34 #[.slice A n c, .int .i64 e, .int .i64 v, .int .i64 k] w fun z w' => ∃ g : Int, z = .returned (.int .i64 g) ∧ (g = 0 ↔ seald l e v k = false) ∧ Ext w w' := by
 obtain ⟨b, hb⟩ : ∃ b, w.heap.size = b := ⟨_, rfl⟩
 obtain ⟨w1, hw1⟩ : ∃ w1, ((w.alloc (.cells #[.int .i64 e] 3)).alloc (.cells #[.int .i64 v] 3)).alloc (.cells #[.int .i64 k] 3) = w1 := ⟨_, rfl⟩
 have hx1 : Ext w w1 := by rw [← hw1]; exact (((Ext.refl w).alloc _).alloc _).alloc _
 have hB0 : w1.heap[b]? = some (.cells #[.int .i64 e] 3 (0, 0)) := by
  rw [← hw1, ← hb, haO _ _ _ (by simp; omega), haO _ _ _ (by simp)]; exact heap_alloc_new _ _
 have hB1 : w1.heap[b + 1]? = some (.cells #[.int .i64 v] 3 (0, 0)) := by
  rw [← hw1, ← hb, haO _ _ _ (by simp)]; exact haA _ _ _ _ (by simp)
 have hB2 : w1.heap[b + 1 + 1]? = some (.cells #[.int .i64 k] 3 (0, 0)) := by
  rw [← hw1, ← hb]; exact haA _ _ _ _ (by simp)
 have HSE := Hd (selected_any P w1 A n c l (fun s => covS s e v k) (.pointer (some ⟨b, 0, none⟩)) (.pointer (some ⟨b + 1, 0, none⟩)) (.pointer (some ⟨b + 1 + 1, 0, none⟩)) (Lay.row_ext h hx1) hn fun X s hX => clo75 X b (b + 1) (b + 1 + 1) e v k s (cof ((hX.block _ (lt_of_block hB0)).trans hB0) rfl) (cof ((hX.block _ (lt_of_block hB1)).trans hB1) rfl) (cof ((hX.block _ (lt_of_block hB2)).trans hB2) rfl))
 have HX1 := Hd hx1
 obtain ⟨F, hF⟩ : ∃ F, (l.filter fun s => covS s e v k) = F := ⟨_, rfl⟩
 have HFG := Hd (show ∀ s ∈ F, 0 ≤ s.gr ∧ s.gr ≤ 15 by rw [← hF]; exact fun s hs => hg s (List.mem_filter.1 hs).1)
 have HFS := Hd (show seald l e v k = false ↔ F.length = 0 by
  rw [← hF, List.length_eq_zero_iff, List.filter_eq_nil_iff]
  unfold seald
  rw [List.any_eq_false])
 obtain ⟨m, hm⟩ : ∃ m, F.length = m := ⟨_, rfl⟩
 have hmn : m ≤ 1000000 := by rw [← hm, ← hF]; exact Nat.le_trans (List.length_filter_le _ _) (by rw [← Lay.row_len h]; exact hn)
 rw [hF, hm] at HSE
 rw [hm] at HFS
 have HM := Hd hm
 clear h hg hx1 hB0 hB1 hB2 hF hm
 go_enter Tryz.func34, Tryz.ntmps34
 go_wp2_with (first | (go_at_call 74; refine (HSE.out).mono ?_; rintro z w2 ⟨A2, c2, rfl, hr2, hx2⟩; have HR2 := Hd hr2; have HX2 := Hd hx2; clear hr2 hx2))
 clear hw1 hb
 go_loopw [9, 16] (fun s9 s16 W => GrR w2 F s9 s16 W) (fun _ s16 _ => toM m s16)
 case atStart => exact ⟨0, 0, by omega, rfl, rfl, by omega, by omega, by simp, Ext.refl _⟩
 obtain ⟨i, g, hi, rfl, rfl, hg0, hg1, hgi, hx⟩ := hrel
 rw [HM.out] at hi
 have HX := Hd hx
 have HGI := Hd hgi
 clear hx hgi
 have hw1 : IntKind.i64.wrap ((i : Int) + 1) = (i : Int) + 1 := IntWalk.i64_in _ (by omega)
 by_cases hlt : i < m
 case neg =>
  have hni : ¬ ((i : Int) < (m : Int)) := by omega
  go_wp2_with fail
  go_ret
  exact ⟨g, rfl, by rw [HFS.out, HGI.out]; omega, HX1.out.trans (HX2.out.trans HX.out)⟩
 have hI : (i : Int) < (m : Int) := by omega
 obtain ⟨s, hs⟩ : ∃ s, F[i]? = some s := ⟨_, List.getElem?_eq_getElem (by have := HM.out; omega)⟩
 obtain ⟨hs0, hs1⟩ := HFG.out s (List.mem_of_getElem? hs)
 obtain ⟨r, hr⟩ : ∃ r : Nat, s.gr = r := ⟨s.gr.toNat, by omega⟩
 obtain ⟨g', hgp, hgl, hor⟩ := or_pos hg0 hg1 (r := r) (by omega)
 obtain ⟨b2, off, rfl, hb2, a0, a1, a2, a3, a4⟩ := sea_at (Lay.row_ext HR2.out HX.out) hs
 rw [hr] at a4
 have y0 := fun o => (((Ext.refl wr).alloc o).cells.1 b2 _ hb2).trans a0
 have y1 := fun o => (((Ext.refl wr).alloc o).cells.1 b2 _ hb2).trans a1
 have y2 := fun o => (((Ext.refl wr).alloc o).cells.1 b2 _ hb2).trans a2
 have y3 := fun o => (((Ext.refl wr).alloc o).cells.1 b2 _ hb2).trans a3
 have y4 := fun o => (((Ext.refl wr).alloc o).cells.1 b2 _ hb2).trans a4
 have hpw : IntKind.i64.wrap (2 ^ r) = 2 ^ r := by
  have h9 : (2 : Nat) ^ r < 2 ^ 16 := Nat.pow_lt_pow_right (by omega) (by omega)
  obtain ⟨q, hq⟩ : ∃ q : Nat, 2 ^ r = q := ⟨_, rfl⟩
  have e : ((2 : Int) ^ r) = (q : Int) := by rw [← hq]; simp
  rw [hq] at h9
  rw [e]
  exact IntWalk.i64_in _ (by omega)
 have hmin : min r 64 = r := by omega
 have hrn : ¬ ((r : Int) < 0) := by omega
 clear hs hs0 hs1 hr
 have HGP := Hd (And.intro hgp hgl)
 clear hgp hgl
 go_wp2_with fail
 go_roundw
 case rel => exact ⟨i + 1, g', by have := HM.out; omega, by go_num, rfl, by have := HGP.out; omega, HGP.out.2, by have := HGP.out; omega, HX.out.alloc _⟩
 case measure => simp only [toM]; omega
end
section
open Go Go.RowKit
theorem around3_fn (n m : Int) (w : World) (h1 : -9223372036854775808 ≤ n) (h2 : n ≤ 9223372036854775807) (h3 : 1 ≤ m) (h4 : m ≤ 1000000000) :
  Calls Tryz.prog 17 #[.int .i64 n, .int .i64 m] w fun e w' => e = .returned (.int .i64 (arnd n m)) ∧ w = w' := by
 by_cases h : n < 0
 ·have hb := neg_tmod_in n m h h3
  have HB := Hd hb; clear hb
  have HE := Hd (arnd_neg (m := m) h)
  go_enter Tryz.func17, Tryz.ntmps17
  go_wp2
  go_ret
  exact ⟨ret_int (by simpa using HE.out), rfl⟩
 ·have HE := Hd (arnd_pos (m := m) h)
  go_enter Tryz.func17, Tryz.ntmps17
  go_wp2
  go_ret
  exact ⟨ret_int (by simpa using HE.out), rfl⟩
set_option maxRecDepth 100000 in
theorem pick3_any (A : Option Addr) (c : Nat) (l : List Int) (i m : Nat) (w : World) (hm : 1 ≤ m) (hm2 : m ≤ 1000000000) (hb : ∀ n ∈ l, -9223372036854775808 ≤ n ∧ n ≤ 9223372036854775807) (h : SL icf 1 w A l.length l) :
  Calls Tryz.prog 65 #[.slice A l.length c, .int .i64 i, .int .i64 m] w fun e w' => e = .returned (.int .i64 (pkI l i m)) ∧ w = w' := by
 by_cases hil : i < l.length
 ·obtain ⟨b, off, n, rfl, hbb, hn, hmem, hc⟩ := h.at hil
  have HP := Hd (show pkI l i m = arnd n m by unfold pkI; rw [hn])
  have hc0 := hc 0 (.int .i64 n) rfl
  rw [Nat.mul_one, Nat.add_zero] at hc0
  have HA := Hd (fun X => around3_fn n m X (hb n hmem).1 (hb n hmem).2 (by omega) (by omega))
  have hni : ¬ (l.length : Int) ≤ (i : Int) := by omega
  clear hc hn h
  go_enter Tryz.func65, Tryz.ntmps65
  go_wp2_with (first | (go_at_call 17; refine (HA.out _).mono ?_; rintro e w1 ⟨rfl, rfl⟩))
  go_ret
  exact ⟨ret_int (by rw [HP.out]), rfl⟩
 ·have HP := Hd (show pkI l i m = 0 by unfold pkI; rw [List.getElem?_eq_none (by omega)])
  have hni : (l.length : Int) ≤ (i : Int) := by omega
  clear h
  go_enter Tryz.func65, Tryz.ntmps65
  go_wp2
  go_ret
  exact ⟨ret_int (by rw [HP.out]), rfl⟩
end
end Go.Proofs.YtdbnddmncbjobaaGreatDoor