/- The reference's Ends: walked. -/
import Derived.Test.YtdbnddmncbjobaaGreatDoorMbi
namespace Go.Proofs.YtdbnddmncbjobaaGreatDoor
section
open Go Go.RowKit
def ErI (w : World) (bc be n : Nat) (m : Int) (ws : List Int) (i : Nat) (cl el : List Int) (s11 s12 : Value) (w' : World) : Prop := (∃ (q : Nat) (s c : Int) (e : Nat) (x y : Int), i ≤ q ∧ q < ws.length ∧ s11 = .int .i64 s ∧ s12 = .int .i64 ((q : Int) + 1) ∧
 Ext w w' ∧ Arr w' bc (cl.set i x) ∧ Arr w' be (el.set i y) ∧ (i < q → x = c ∧ y = ((i + e : Nat) : Int) ∧ 0 ≤ c) ∧ (q = i → s = m + 6 ∧ x = -1) ∧ 0 ≤ s ∧ s ≤ m + 6 ∧
 bst m ws i = pk s (ws.drop q) (best m (ws.drop (q + 1))) (q - i) c e) ∨
 (∃ cl' el', s12 = .int .i64 ((n : Int) + 1) ∧ Ext w w' ∧ Arr w' bc cl' ∧ Arr w' be el' ∧ EnA m ws i cl' el')
set_option maxHeartbeats 8000000 in
set_option maxRecDepth 100000 in
theorem rends_any (P : Nat → Prop) (w : World) (A : Option Addr) (n c : Nat) (ws : List Int) (m : Int) (h : kInt.row w P A n ws) (hw : Wdr ws) (hn : n ≤ 500) (hm0 : 500 ≤ m) (hm : m ≤ 2000) :
  Calls Tryz.prog 212 #[.slice A n c, .int .i64 m] w (fun e w' => ∃ A' c', e = .returned (.tuple #[.slice A' (lens ws m).length c', .int .i64 0]) ∧ kInt.own 3 w' w.heap.size (fun _ => True) (.slice A' (lens ws m).length c') (cum 0 (lens ws m)) ∧ Ext w w') := by
 have HL := Hd (Lay.row_len h)
 have HR := Hd h
 have HW := Hd hw
 have HC := Hd (rregular_any P w A n c ws m h hw hn hm0 hm)
 clear h hw
 obtain ⟨Z, hz, hmk⟩ := mkInts (n + 1) (by omega) ((n : Int) + 1) (by simp)
 have HZ := Hd hz
 clear hz
 obtain ⟨bc, hbc⟩ : ∃ bc, w.heap.size = bc := ⟨_, rfl⟩
 obtain ⟨w2, hw2⟩ : ∃ w2, w.alloc (.cells Z 3) = w2 := ⟨_, rfl⟩
 obtain ⟨be, hbe⟩ : ∃ be, w2.heap.size = be := ⟨_, rfl⟩
 obtain ⟨w3, hw3⟩ : ∃ w3, w2.alloc (.cells Z 3) = w3 := ⟨_, rfl⟩
 have hne : bc ≠ be := by rw [← hbc, ← hbe, ← hw2, World.size_alloc]; omega
 have HAC := Hd (HZ.out w3 bc (by rw [← hw3, ← hw2, ← hbc]; exact (Below.heap_alloc _ _ _ (by simp)).trans (heap_alloc_new w _)))
 have HAE := Hd (HZ.out w3 be (by rw [← hw3, ← hbe]; exact heap_alloc_new w2 _))
 have HXC := Hd (show Ext w w3 from by rw [← hw3, ← hw2]; exact ((Ext.refl w).alloc _).alloc _)
 have hbc' : w.heap.size ≤ bc := by omega
 have hbe' : w.heap.size ≤ be := by rw [← hbe, ← hw2, World.size_alloc]; omega
 obtain ⟨N1, hN1⟩ : ∃ N1 : Int, (n : Int) - 1 = N1 := ⟨_, rfl⟩
 go_enter Tryz.func212, Tryz.ntmps212
 go_wp2_with (first | (go_at_call 236; refine (HC.out).mono ?_; rintro e w1 ⟨rfl, rfl⟩))
 have HN1 := Hd hN1
 clear hN1
 go_loopw [10, 11, 12] (fun s10 s11 s12 w' => EnO w bc be m ws s10 w') (fun s10 s11 s12 _ => toU s10)
 case atStart =>
  refine ⟨ws.length, _, _, Nat.le_refl _, ?_, HXC.out, HAC.out, HAE.out, by simp [HL.out], by simp [HL.out], fun k h1 h2 => by
   obtain rfl : k = ws.length := by omega
   rw [bst_end]; simp [HL.out], fun k h1 h2 => by omega⟩
  rcases Nat.eq_zero_or_pos n with h0 | h0
  ·exact .inl ⟨by have := HL.out; omega, by rw [← HN1.out, h0]; rfl⟩
  ·exact .inr ⟨n - 1, by have := HL.out; omega, by rw [← HN1.out, Int.natCast_sub (by omega)]; rfl⟩
 obtain ⟨d, cl, el, hd, hs10, hx, ha, hb, hA⟩ := hrel
 have HX := Hd hx
 have HA := Hd ha
 have HB := Hd hb
 have HE := Hd hA
 clear hx ha hb hA HAC HAE HXC
 rcases hs10 with ⟨rfl, rfl⟩ | ⟨i, rfl, rfl⟩
 ·go_wp2_with fail
  have hbelt : be < wr.heap.size := HB.out.lt
  go_loopw [14, 15] (fun s13 s14 w' => EnL w be wr.heap.size m ws el s13 s14 w') (fun _ s14 _ => toM n s14)
  case atStart => exact ⟨0, [], by omega, rfl, Nat.le_refl _, HX.out, HB.out, Lay.own_nil _ _ _ _ _, Nat.le_refl _, by simp⟩
  obtain ⟨i, done, hi, rfl, hbs, hx2, hb2, ho2, hdl, hcu⟩ := hrel
  have HX2 := Hd hx2
  have HB2 := Hd hb2
  have HO2 := Hd ho2
  have HCU := Hd hcu
  clear hx2 hb2 ho2 hcu
  by_cases hlt : i < n
  case neg =>
   obtain rfl : i = n := by have := HL.out; omega
   have hni : ¬ ((i : Int) < (i : Int)) := by omega
   go_wp2_with fail
   obtain ⟨A9, c9, rfl, _⟩ := Lay.own_row HO2.out
   have HD := Hd (show cum 0 (lens ws m) = done by
    have := HCU.out
    rw [HL.out, cum_end, List.append_nil] at this
    exact this)
   have HDL := Hd (show (lens ws m).length = done.length by rw [← HD.out, cum_len])
   refine bodyPost_ret (v := .tuple #[.slice A9 done.length c9, .int .i64 0]) (by simp [results, Tryz.results212, go_sem, *]) rfl ?_
   exact ⟨A9, c9, by rw [HDL.out], by rw [HDL.out, HD.out]; exact own_base HO2.out (by have := HX.out.lt; omega), HX2.out⟩
  have hI : (i : Int) < (n : Int) := by omega
  have hbd := bst_bd (m := m) hm0 HW.out.wds (i := i) (by have := HL.out; omega)
  have hcs := cum_step hm0 HW.out.wds (i := i) (by have := HL.out; omega)
  rw [← HL.out] at hbd
  have hel := HE.out.e i (by omega) (by have := HL.out; omega)
  obtain ⟨x, hx⟩ : ∃ x, x = i + (bst m ws i).2 := ⟨_, rfl⟩
  rw [← hx] at hbd hcs hel
  have hce := HB2.out.cell hel
  have hlto := Lay.own_lt HO2.out
  obtain ⟨A9, c9, w9, hrun, ho9, hb9, hk9, hs9, _⟩ := own_app1 (k := kInt) (Pr := Tryz.prog) (t := 22) Tryz.underlying22 info3 rfl (by decide) (by omega) HO2.out hbs (cs := #[.int .i64 x]) (T := 3) (x := (x : Int)) rfl 1 (by omega)
  have hbn : u14.ownBlock ≠ some be := fun e => by have := (hlto be e).1; omega
  have hB9 := HB2.out.keep (hk9 be HB2.out.lt hbn)
  have hce9 := hB9.cell hel
  have HX9 := Hd (show Ext w w9 from Below.trans HX2.out (hb9 w.heap.size HX.out.lt))
  have HB9 := Hd hB9
  have HO9 := Hd ho9
  have HCS := Hd hcs
  have h1x : i < x := by omega
  have h2x : x ≤ n := hbd.2
  have HS9 := Hd hs9
  clear hB9 ho9 hb9 hk9 hlto hcs hel hs9 hx hbd
  go_wp2_with (first | (at_builtin; refine wpList_append_run (s := .tmp 97) (x := .tmp 102) hrun rfl rfl rfl rfl rfl ?_))
  go_roundw
  case rel => exact ⟨x, done ++ [(x : Int)], by have := HL.out; omega, rfl, Nat.le_trans hbs HS9.out, HX9.out, HB9.out, HO9.out, by simp; omega, by rw [HCU.out, HCS.out]; simp⟩
  case measure => simp only [toM]; omega
 ·have hin : i < n := by have := HL.out; omega
  have hfc := HA.out.frozen i
  obtain ⟨x0, hx0⟩ : ∃ x0, cl[i]? = some x0 := ⟨_, List.getElem?_eq_getElem (by rw [HE.out.cn]; omega)⟩
  have hxc := HA.out.cell hx0
  clear hx0
  have HS0 := Hd (HA.out.set i (-1))
  have HS1 := Hd (HB.out.other (a := ⟨bc, i, none⟩) (Ne.symm hne) (.int .i64 (-1)))
  go_wp2_with fail
  go_loopw [11, 12] (fun s11 s12 w' => ErI w bc be n m ws i cl el s11 s12 w') (fun _ s12 _ => toM (n + 2) s12)
  case atStart =>
   refine .inl ⟨i, m + 6, 0, 0, -1, el[i]?.getD 0, Nat.le_refl _, by omega, rfl, rfl, HX.out.setCell (p := ⟨bc, i, none⟩) hbc' _, HS0.out, ?_, fun h => absurd h (Nat.lt_irrefl _), fun _ => ⟨rfl, rfl⟩, by omega, Int.le_refl _, ?_⟩
   ·rw [set_same _ _ (by rw [HE.out.en]; omega)]; exact HS1.out
   ·rw [Nat.sub_self]; exact bst_pk m ws (by omega)
  clear hfc hxc HS0 HS1
  rcases hrel with ⟨q, s, c1, e1, x, y, hiq, hqn, rfl, rfl, hx, ha, hb, hxy, hs0, hs1, hs2, heq⟩ | ⟨cl', el', rfl, hx, ha, hb, hen⟩
  case inr =>
   have HXr := Hd hx
   have HAr := Hd ha
   have HBr := Hd hb
   have HEN := Hd hen
   have hnn : ¬ ((n : Int) + 1 ≤ (n : Int)) := by omega
   clear hx ha hb hen
   go_wp2_with fail
   go_roundw
   case rel =>
    refine ⟨i, _, _, by omega, ?_, HXr.out, HAr.out, HBr.out, HEN.out⟩
    rcases Nat.eq_zero_or_pos i with h0 | h0
    ·exact .inl ⟨h0, by rw [h0]; rfl⟩
    ·exact .inr ⟨i - 1, by omega, by rw [Int.natCast_sub (by omega)]; rfl⟩
   case measure => simp only [toU]; omega
  obtain ⟨v, hv⟩ : ∃ v, ws[q]? = some v := ⟨_, List.getElem?_eq_getElem hqn⟩
  have hvb := HW.out v (List.mem_of_getElem? hv)
  obtain ⟨b0, off, rfl, hb0, _, hcell⟩ := int_at (Lay.row_ext HR.out hx) hv
  have hst := pk_step m ws hqn v hv (q - i) s c1 e1
  rw [← heq] at hst
  obtain ⟨z, hz⟩ : ∃ z, s - (v + 6) = z := ⟨_, rfl⟩
  have hz' : s - 6 - v = z := by omega
  rw [hz] at hst
  have HST := Hd hst
  have HXr := Hd hx
  have HAr := Hd ha
  have HBr := Hd hb
  have HXY := Hd hxy
  clear hst heq hv hx ha hb hxy
  have hq5 : (q : Int) < 500 := by have := HL.out; omega
  have hq6 : (q : Int) < (n : Int) := by have := HL.out; omega
  by_cases hz0 : z < 0
  ·have hiq' : i < q := by
    rcases Nat.lt_or_ge i q with h | h
    ·exact h
    ·have := (hs0 (by omega)).1; omega
   have HEN := Hd (HE.out.step (x := c1) (e := e1) (by omega) (by have := HST.out; rwa [if_pos hz0] at this))
   obtain ⟨rfl, rfl, _⟩ := HXY.out hiq'
   clear hs0
   go_wp2_with fail
   go_roundw
   case rel =>
    refine ⟨i, _, _, by omega, ?_, HXr.out, HAr.out, HBr.out, HEN.out⟩
    rcases Nat.eq_zero_or_pos i with h0 | h0
    ·exact .inl ⟨h0, by rw [h0]; rfl⟩
    ·exact .inr ⟨i - 1, by omega, by rw [Int.natCast_sub (by omega)]; rfl⟩
   case measure => simp only [toU]; omega
  have hzs : z ≤ 2006 := by omega
  have hz1 : 0 ≤ z := by omega
  obtain ⟨zz, hzz⟩ : ∃ zz, z * z = zz := ⟨_, rfl⟩
  have hzz1 : 0 ≤ zz ∧ zz ≤ 4024036 := by
   rw [← hzz]
   exact ⟨Int.mul_nonneg hz1 hz1, Int.le_trans (Int.mul_le_mul hzs hzs hz1 (by omega)) (by omega)⟩
  obtain ⟨hzz2, hzz3⟩ := hzz1
  have hcj := bst_cost (m := m) (by omega) hm HW.out.wds (by have := HL.out; omega) (q + 1)
  have hcc := HE.out.c (q + 1) (by omega) (by omega)
  obtain ⟨cj, hcje⟩ : ∃ cj, (bst m ws (q + 1)).1 = cj := ⟨_, rfl⟩
  rw [hcje] at hcj hcc
  obtain ⟨hcj1, hcj2⟩ := hcj
  have HST2 := Hd (show bst m ws i = if q + 1 = ws.length then (0, q - i + 1) else if q - i = 0 ∨ zz + cj ≤ c1 then pk z (ws.drop (q + 1)) (best m (ws.drop (q + 1 + 1))) (q - i + 1) (zz + cj) (q - i + 1) else pk z (ws.drop (q + 1)) (best m (ws.drop (q + 1 + 1))) (q - i + 1) c1 e1 from by have := HST.out; rwa [if_neg hz0, hzz, hcje] at this)
  have hfc := HAr.out.frozen i
  have hfe := HBr.out.frozen i
  have hxc := HAr.out.cell (show (cl.set i x)[i]? = some x by rw [List.getElem?_set, if_pos rfl, if_pos (by rw [HE.out.cn]; omega)])
  have hxe := HBr.out.cell (show (el.set i y)[i]? = some y by rw [List.getElem?_set, if_pos rfl, if_pos (by rw [HE.out.en]; omega)])
  have hxj := HAr.out.cell (show (cl.set i x)[q + 1]? = some cj by rw [List.getElem?_set, if_neg (by omega)]; exact hcc)
  clear HST hcje hcc
  have HYtdbnddmncbjobaaGreatDoor : q = i ∧ x = -1 ∨ i < q ∧ 0 ≤ x := by
   rcases Nat.lt_or_ge i q with h | h
   ·have := HXY.out h; exact .inr ⟨h, by omega⟩
   ·exact .inl ⟨by omega, (hs0 (by omega)).2⟩
  by_cases hqe : q + 1 = n
  ·have HEN := Hd (HE.out.step (x := 0) (e := q - i + 1) (by omega) (by have := HST2.out; rwa [if_pos (by rw [← HL.out]; exact hqe)] at this))
   have HIQ := Hd (show i + (q - i + 1) = n by omega)
   rw [HIQ.out] at HEN
   have HUP : ∀ nq, ErI w bc be n m ws i cl el (.int .i64 z) (.int .i64 ((n : Int) + 1)) (((wr.drewN nq).setCell ⟨bc, i, none⟩ (.int .i64 0)).setCell ⟨be, i, none⟩ (.int .i64 (n : Int))) := fun nq => by
    have hA := HAr.out.keep (w' := wr.drewN nq) (by simp)
    have hB := HBr.out.keep (w' := wr.drewN nq) (by simp)
    refine .inr ⟨_, _, rfl, (HXr.out.drewN nq).setCell (p := ⟨bc, i, none⟩) hbc' _ |>.setCell (p := ⟨be, i, none⟩) hbe' _, (hA.set i 0).other hne _, (hB.other (a := ⟨bc, i, none⟩) (Ne.symm hne) _).set i _, ?_⟩
    rw [List.set_set, List.set_set]; exact HEN.out
   have HUP1 := Hd HUP
   clear HUP hs0
   have hqz : (q : Int) + 1 = (n : Int) := by omega
   rw [hqe] at hxj
   clear hqe
   have hq1 : (n : Int) - 1 = (q : Int) := by omega
   have hwz : IntKind.i64.wrap (n : Int) = (n : Int) := IntWalk.i64_in _ (by omega)
   have hw2 : IntKind.i64.wrap zz = zz := IntWalk.i64_in _ (by omega)
   have hw3 : IntKind.i64.wrap (zz + cj) = zz + cj := IntWalk.i64_in _ (by omega)
   rcases HYtdbnddmncbjobaaGreatDoor with ⟨rfl, rfl⟩ | ⟨hiq', hx0⟩
   ·go_wp2_with fail
    go_roundw
    case rel => exact HUP1.out 0
    case measure => simp only [toM]; omega
   ·have hx1 : ¬ x < 0 := by omega
    go_wp2_with fail
    go_roundw
    case rel => exact HUP1.out 0
    case measure => simp only [toM]; omega
  ·have hqI : ¬ ((q : Int) + 1 = (n : Int)) := by omega
   have hqB : ((q : Int) + 1 == (n : Int)) = false := by rw [beq_eq_false_iff_ne]; omega
   have HST3 := Hd (show bst m ws i = if q - i = 0 ∨ zz + cj ≤ c1 then pk z (ws.drop (q + 1)) (best m (ws.drop (q + 1 + 1))) (q - i + 1) (zz + cj) (q - i + 1) else pk z (ws.drop (q + 1)) (best m (ws.drop (q + 1 + 1))) (q - i + 1) c1 e1 from by have := HST2.out; rwa [if_neg (by rw [← HL.out]; exact hqe)] at this)
   clear HST2
   have HUP : q - i = 0 ∨ zz + cj ≤ c1 → ∀ nq, ErI w bc be n m ws i cl el (.int .i64 z) (.int .i64 ((q : Int) + 1 + 1)) (((wr.drewN nq).setCell ⟨bc, i, none⟩ (.int .i64 (zz + cj))).setCell ⟨be, i, none⟩ (.int .i64 ((q : Int) + 1))) := fun hor nq => by
    have h3 := HST3.out
    rw [if_pos hor, show q - i + 1 = q + 1 - i by omega] at h3
    have hA := HAr.out.keep (w' := wr.drewN nq) (by simp)
    have hB := HBr.out.keep (w' := wr.drewN nq) (by simp)
    refine .inl ⟨q + 1, z, _, _, zz + cj, (q : Int) + 1, by omega, by have := HL.out; omega, rfl, by simp, (HXr.out.drewN nq).setCell (p := ⟨bc, i, none⟩) hbc' _ |>.setCell (p := ⟨be, i, none⟩) hbe' _, ?_, ?_, fun _ => ⟨rfl, by omega, by omega⟩, fun h => by omega, hz1, by omega, h3⟩
    ·have := (hA.set i (zz + cj)).other (a := ⟨be, i, none⟩) hne (.int .i64 ((q : Int) + 1))
     rwa [List.set_set] at this
    ·have := (hB.other (a := ⟨bc, i, none⟩) (Ne.symm hne) (.int .i64 (zz + cj))).set i ((q : Int) + 1)
     rwa [List.set_set] at this
   rcases HYtdbnddmncbjobaaGreatDoor with ⟨rfl, rfl⟩ | ⟨hiq', hx0⟩
   ·have HUP1 := Hd (HUP (.inl (by omega)))
    clear HUP hs0
    go_wp2_with fail
    go_roundw
    case rel => exact HUP1.out 0
    case measure => simp only [toM]; omega
   ·obtain ⟨e5, e6, e7⟩ := HXY.out hiq'
    have hx1 : ¬ x < 0 := by omega
    have hw2 : IntKind.i64.wrap zz = zz := IntWalk.i64_in _ (by omega)
    have hw3 : IntKind.i64.wrap (zz + cj) = zz + cj := IntWalk.i64_in _ (by omega)
    by_cases hle : zz + cj ≤ x
    ·have HUP1 := Hd (HUP (.inr (by omega)))
     clear HUP hs0 e5 e6
     go_wp2_with fail
     go_roundw
     case rel => exact HUP1.out 0
     case measure => simp only [toM]; omega
    ·have HNO : ∀ nq, ErI w bc be n m ws i cl el (.int .i64 z) (.int .i64 ((q : Int) + 1 + 1)) (wr.drewN nq) := fun nq => by
      have h3 := HST3.out
      rw [if_neg (by omega), show q - i + 1 = q + 1 - i by omega] at h3
      exact .inl ⟨q + 1, z, _, _, x, y, by omega, by have := HL.out; omega, rfl, by simp, HXr.out.drewN nq, HAr.out.keep (w' := wr.drewN nq) (by simp), HBr.out.keep (w' := wr.drewN nq) (by simp), fun _ => ⟨e5, e6, e7⟩, fun h => by omega, hz1, by omega, h3⟩
     have HNO1 := Hd HNO
     have hle' : x < zz + cj := by omega
     clear HUP hs0 e5 e6 HNO
     go_wp2_with fail
     go_roundw
     case rel => exact HNO1.out 0
     case measure => simp only [toM]; omega
end
section
open Go Go.RowKit
theorem slackP_sum (ws : List Int) (m : Int) : slackP ws m = m - 6 * ((ws.length : Int) - 1) - ws.sum := by
 suffices ∀ (l : List Int) (s : Int), l.foldl (fun s w => s - (w + 6)) s = s - 6 * (l.length : Int) - l.sum by
  unfold slackP; rw [this]; omega
 intro l
 induction l with
 | nil => intro s; simp
 | cons a r ih => intro s; simp only [List.foldl_cons, ih, List.length_cons, List.sum_cons]; omega
theorem sum_bd {ws : List Int} (h : Wds ws) : 0 ≤ ws.sum ∧ ws.sum ≤ 480 * (ws.length : Int) := by
 induction ws with
 | nil => simp
 | cons a r ih =>
  have h1 := h a (by simp)
  have h2 := ih h.tail
  simp only [List.sum_cons, List.length_cons]
  omega
def RsR (m : Int) (ws : List Int) (W : World) (s5 s6 : Value) (w' : World) : Prop := ∃ i : Nat, i ≤ ws.length ∧ s6 = .int .i64 i ∧ s5 = .int .i64 (m - 6 * ((ws.length : Int) - 1) - (ws.take i).sum) ∧ W = w'
set_option maxHeartbeats 4000000 in
set_option maxRecDepth 100000 in
theorem rslack_any (P : Nat → Prop) (w : World) (A : Option Addr) (n c : Nat) (ws : List Int) (m : Int) (h : kInt.row w P A n ws) (hw : Wds ws) (hn : n ≤ 500) (hm0 : 0 ≤ m) (hm : m ≤ 2000) :
  Calls Tryz.prog 237 #[.slice A n c, .int .i64 m] w (fun e w' => e = .returned (.int .i64 (slackP ws m)) ∧ w = w') := by
 have HL := Hd (Lay.row_len h)
 have HR := Hd h
 have HW := Hd hw
 clear h hw
 have i1 : IntKind.i64.wrap ((n : Int) - 1) = (n : Int) - 1 := IntWalk.i64_in _ (by omega)
 go_enter Tryz.func237, Tryz.ntmps237
 go_wp2_with fail
 go_loopw [5, 6] (fun s5 s6 w' => RsR m ws w s5 s6 w') (fun _ s6 _ => toM n s6)
 case atStart => exact ⟨0, by omega, rfl, by rw [← HL.out]; simp, rfl⟩
 obtain ⟨i, hi, rfl, rfl, rfl⟩ := hrel
 rw [← HL.out] at hi ⊢
 have hb := sum_bd (ws := ws.take i) (fun x hx => HW.out x (List.mem_of_mem_take hx))
 have hti : (ws.take i).length ≤ 500 := by rw [List.length_take]; omega
 obtain ⟨s, hs⟩ : ∃ s, s = m - 6 * ((n : Int) - 1) - (ws.take i).sum := ⟨_, rfl⟩
 rw [← hs]
 have b1 : -300000 ≤ s := by omega
 have b2 : s ≤ 10000 := by omega
 have HS := Hd hs
 clear hs hb hti
 by_cases hlt : i < n
 case neg =>
  obtain rfl : i = n := by omega
  have hni : ¬ ((i : Int) < (i : Int)) := by omega
  have HF := Hd (show slackP ws m = s by rw [HS.out, slackP_sum, HL.out, List.take_length])
  go_wp2_with fail
  go_ret
  exact ⟨ret_i HF.out.symm, rfl⟩
 have hI : (i : Int) < (n : Int) := by omega
 obtain ⟨x, hxi⟩ : ∃ x, ws[i]? = some x := ⟨_, List.getElem?_eq_getElem (by have := HL.out; omega)⟩
 obtain ⟨b, off, rfl, hb1, _, hcell⟩ := int_at HR.out hxi
 have hx := HW.out x (List.mem_of_getElem? hxi)
 have HX := Hd hxi
 clear hxi
 go_wp2_with fail
 go_roundw
 case rel =>
  refine ⟨i + 1, by have := HL.out; omega, by simp, ?_, rfl⟩
  rw [← HL.out, List.take_add_one, HX.out, HS.out]
  simp only [Option.toList_some, List.sum_append, List.sum_cons, List.sum_nil]
  congr 1
  omega
 case measure => simp only [toM]; omega
end
section
open Go Go.RowKit
theorem info3b : (Tryz.prog.info? 3).map (fun i => (i.zero, i.size, i.bytes)) = some (some (Value.int .i64 0), 1, 8) := by kernel_rfl
end
section
open Go Go.RowKit
theorem gapsP_len (ws : List Int) (m : Int) (last : Bool) : (gapsP ws m last).length = ws.length - 1 := by
 unfold gapsP
 cases last
 ·simp [gapsGo_len]
 ·simp
theorem gapsP_at (ws : List Int) (m : Int) (last : Bool) {k i : Nat} (hk : ws.length - 1 = k) (hi : i < k) : (gapsP ws m last)[i]? = some (if last then 6 else gapAt (slackP ws m) k i) := by
 unfold gapsP
 cases last
 ·rw [hk]
  have := gapsGo_at (slackP ws m) k k 0 i hi
  rw [Nat.zero_add] at this
  simpa using this
 ·rw [hk]
  simp [hi]
theorem int_app {w X : World} {v : Value} {xs : List Int} {x : Int} (h : kInt.own 3 X w.heap.size (fun _ => True) v xs) (hx : Ext w X) (hl : xs.length < 1000000) :
  ∃ A' c' w', (Builtin.append_ #[22, 22] 22 #[v, .slice (some ⟨X.heap.size, 0, none⟩) 1 1]).run Tryz.prog (X.alloc (.cells #[.int .i64 x] 3)) = .ok (.slice A' (xs.length + 1) c') w' ∧ kInt.own 3 w' w.heap.size (fun _ => True) (.slice A' (xs.length + 1) c') (xs ++ [x]) ∧ Ext w w' := by
 obtain ⟨A', c', w', r1, r2, r3, _⟩ := own_app1 (k := kInt) (Pr := Tryz.prog) (t := 22) Tryz.underlying22 info3b rfl (by decide) (by omega) h hx.lt (cs := #[.int .i64 x]) (T := 3) (x := x) rfl 1 (by omega)
 exact ⟨A', c', w', r1, r2, Below.trans hx (r3 _ (Nat.le_refl _))⟩
def RgR (w : World) (G : List Int) (k : Nat) (s7 s10 : Value) (w' : World) : Prop := ∃ (i : Nat) (A : Option Addr) (c : Nat), i ≤ k ∧ s10 = .int .i64 i ∧ s7 = .slice A i c ∧ kInt.own 3 w' w.heap.size (fun _ => True) (.slice A i c) (G.take i) ∧ Ext w w'
set_option maxHeartbeats 4000000 in
set_option maxRecDepth 100000 in
theorem rgaps_any (P : Nat → Prop) (w : World) (A : Option Addr) (n c : Nat) (ws : List Int) (m : Int) (last : Bool) (h : kInt.row w P A n ws) (hw : Wds ws) (hn : n ≤ 500) (hm0 : 0 ≤ m) (hm : m ≤ 2000) :
  Calls Tryz.prog 213 #[.slice A n c, .int .i64 m, .bool last] w (fun e w' => ∃ A' c', e = .returned (.slice A' (gapsP ws m last).length c') ∧ kInt.own 3 w' w.heap.size (fun _ => True) (.slice A' (gapsP ws m last).length c') (gapsP ws m last) ∧ Ext w w') := by
 have hl := Lay.row_len h
 have hbd := slackP_bd hm0 hm ws hw (by omega)
 have HSL := Hd (rslack_any P w A n c ws m h hw hn hm0 hm)
 obtain ⟨k, hk⟩ : ∃ k, ws.length - 1 = k := ⟨_, rfl⟩
 obtain ⟨kk, hkk⟩ : ∃ kk : Int, kk = (n : Int) - 1 := ⟨_, rfl⟩
 have HG := Hd (fun i (hi : i < k) => gapsP_at ws m last hk hi)
 have HGL := Hd (show (gapsP ws m last).length = k by rw [gapsP_len, hk])
 obtain ⟨G, hG⟩ : ∃ G, gapsP ws m last = G := ⟨_, rfl⟩
 obtain ⟨s, hs⟩ : ∃ s, slackP ws m = s := ⟨_, rfl⟩
 rw [hs] at HSL hbd HG
 rw [hG] at HGL HG ⊢
 obtain ⟨hb1, hb2⟩ := hbd
 have HKN := Hd (show (kk = (k : Int) ∨ (kk = -1 ∧ k = 0)) ∧ k ≤ 499 by omega)
 have HKK := Hd hkk.symm
 clear h hl hw hs hG hk hkk
 go_enter Tryz.func213, Tryz.ntmps213
 go_wp2_with (first | (go_at_call 237; refine (HSL.out).mono ?_; rintro e w2 ⟨rfl, rfl⟩))
 rw [HKK.out]
 go_loopw [7, 10, 11] (fun s7 s10 _ w' => RgR w G k s7 s10 w') (fun _ s10 _ _ => toM k s10)
 case atStart => exact ⟨0, none, 0, by omega, rfl, rfl, by rw [List.take_zero]; exact Lay.own_nil _ _ _ _ _, Ext.refl _⟩
 obtain ⟨i, A9, c9, hi, rfl, rfl, ho, hx⟩ := hrel
 have HO := Hd ho
 have HX := Hd hx
 clear ho hx
 by_cases hlt : i < k
 case neg =>
  obtain rfl : i = k := by omega
  have hni : ¬ ((i : Int) < kk) := by have := HKN.out; omega
  go_wp2_with fail
  go_ret
  have h9 := HO.out
  rw [List.take_of_length_le (by rw [HGL.out]; exact Nat.le_refl _)] at h9
  rw [HGL.out]
  exact ⟨A9, c9, rfl, h9, HX.out⟩
 obtain rfl : kk = (k : Int) := by have := HKN.out; omega
 have hI : (i : Int) < (k : Int) := by omega
 have hk499 := HKN.out.2
 obtain ⟨dv, hdv⟩ : ∃ dv, s.tdiv (k : Int) = dv := ⟨_, rfl⟩
 obtain ⟨md, hmd⟩ : ∃ md, s.tmod (k : Int) = md := ⟨_, rfl⟩
 have hdb : -300000 ≤ dv ∧ dv ≤ 300000 := by
  have := Int.natAbs_tdiv_le_natAbs s k
  rw [hdv] at this
  omega
 obtain ⟨hdb1, hdb2⟩ := hdb
 have hk0 : ¬ (k : Int) = 0 := by omega
 have hk00 : ¬ k = 0 := by omega
 have hkb : ((k : Int) == 0) = false := by rw [beq_eq_false_iff_ne]; exact hk0
 have HGI := Hd (HG.out i hlt)
 have HGA := Hd (show gapAt s k i = 6 + dv + (if (i : Int) < md then 1 else 0) by unfold gapAt; rw [hdv, hmd])
 have HAP := Hd (fun y => int_app (x := y) HO.out HX.out (by rw [List.length_take]; have := HKN.out; omega))
 have HST := Hd (fun (A' : Option Addr) (c' : Nat) (w' : World) (y : Int) (hy : G[i]? = some y) (ho : kInt.own 3 w' w.heap.size (fun _ => True) (.slice A' ((G.take i).length + 1) c') (G.take i ++ [y])) (hx : Ext w w') => (show RgR w G k (.slice A' (i + 1) c') (.int .i64 ((i : Int) + 1)) w' from by
  have hl : (G.take i).length = i := by rw [List.length_take, HGL.out]; omega
  rw [hl] at ho
  refine ⟨i + 1, A', c', by omega, by simp, rfl, ?_, hx⟩
  rw [List.take_add_one, hy]
  exact ho))
 have hl : (G.take i).length = i := by rw [List.length_take, HGL.out]; omega
 cases last with
 | true =>
  obtain ⟨A', c', w', hrun, ho, hx⟩ := HAP.out 6
  rw [hl] at hrun
  have HRUN := Hd hrun
  have HR := Hd (HST.out A' c' w' 6 HGI.out ho hx)
  clear hrun ho hx hl
  go_wp2_with (first | (at_builtin; refine wpList_append_run (s := .tmp 37) (x := .tmp 39) HRUN.out rfl rfl rfl rfl rfl ?_))
  go_roundw
  case rel => exact HR.out
  case measure => simp only [toM]; omega
 | false =>
  have hw6 : IntKind.i64.wrap (6 + dv) = 6 + dv := IntWalk.i64_in _ (by omega)
  have hwd : IntKind.i64.wrap dv = dv := IntWalk.i64_in _ (by omega)
  by_cases hmdi : (i : Int) < md
  ·obtain ⟨A', c', w', hrun, ho, hx⟩ := HAP.out (6 + dv + 1)
   rw [hl] at hrun
   have HRUN := Hd hrun
   have HR := Hd (HST.out A' c' w' (6 + dv + 1) (by rw [HGI.out, HGA.out, if_pos hmdi]; rfl) ho hx)
   clear hrun ho hx hl
   go_wp2_with (first | (at_builtin; refine wpList_append_run (s := .tmp 37) (x := .tmp 39) HRUN.out rfl rfl rfl rfl rfl ?_))
   go_roundw
   case rel => exact HR.out
   case measure => simp only [toM]; omega
  ·obtain ⟨A', c', w', hrun, ho, hx⟩ := HAP.out (6 + dv)
   rw [hl] at hrun
   have HRUN := Hd hrun
   have HR := Hd (HST.out A' c' w' (6 + dv) (by rw [HGI.out, HGA.out, if_neg hmdi, Int.add_zero]; rfl) ho hx)
   clear hrun ho hx hl
   go_wp2_with (first | (at_builtin; refine wpList_append_run (s := .tmp 37) (x := .tmp 39) HRUN.out rfl rfl rfl rfl rfl ?_))
   go_roundw
   case rel => exact HR.out
   case measure => simp only [toM]; omega
theorem slice_hi (A : Option Addr) (n c : Nat) (hn : n ≤ c) (hA : A = none → n = 0) (W : World) : (Instr.sliceAt 22 (.slice A n c) none (some (.int .i64 (n : Int))) none).run Tryz.prog W = .ok (.slice A n c) W := by
 cases A with
 | none =>
  obtain rfl := hA rfl
  by_cases hc : c = 0
  ·subst hc; go_simp
  ·go_simp
 | some a =>
  have h1 : (n : Int) ≤ (c : Int) := by omega
  by_cases hc : c = 0
  ·subst hc
   obtain rfl : n = 0 := by omega
   go_simp
  ·go_simp
theorem row_none {β : Type} {k : Lay β} {W : World} {P : Nat → Prop} {n : Nat} {xs : List β} (h : k.row W P none n xs) : n = 0 := by
 obtain ⟨ds, h1, h2, h3, _⟩ := h
 rcases Nat.eq_zero_or_pos n with h | h
 ·exact h
 ·obtain ⟨b, off, e, _⟩ := h3.2 h; cases e
theorem own_intQ {W : World} {e : TypeId} {b : Nat} {P Q : Nat → Prop} {v : Value} {xs : List Int} (h : kInt.own e W b P v xs) : kInt.own e W b Q v xs := by
 obtain ⟨ds, h1, h2, h3⟩ := h
 exact ⟨ds, h1, h2, h3⟩
set_option maxHeartbeats 4000000 in
set_option maxRecDepth 100000 in
theorem rints_any (P : Nat → Prop) (w : World) (A : Option Addr) (n c : Nat) (xs : List Int) (h : kInt.row w P A n xs) (hc : n ≤ c) (hn : n ≤ 1000000) :
  Calls Tryz.prog 214 #[.slice A n c, .int .i64 (n : Int)] w (fun e w' => ∃ A' c', e = .returned (.slice A' n c') ∧ n ≤ c' ∧ kInt.row w' (fun j => w.heap.size ≤ j) A' n xs ∧ Ext w w') := by
 have hl := Lay.row_len h
 have HS := Hd (slice_hi A n c hc (fun e => by subst e; exact row_none h))
 obtain ⟨A', c', w', hrun, ho, hx⟩ := own_app (k := kInt) (Pr := Tryz.prog) (t := 22) (e := 3) Tryz.underlying22 info3b rfl (by decide) (by omega) (Lay.own_nil kInt 3 w w.heap.size P) (Ext.refl w) h c (by simp; omega)
 simp only [List.length_nil, Nat.zero_add, List.nil_append] at hrun ho
 have HF := Hd (show n ≤ c' ∧ kInt.row w' (fun j => w.heap.size ≤ j) A' n xs ∧ Ext w w' from by
  have ho' : kInt.own 3 w' w.heap.size (fun _ => False) (.slice A' n c') xs := own_intQ ho
  have hlt := Lay.own_lt ho'
  obtain ⟨A9, c9, e9, h9, hr9⟩ := Lay.own_row ho'
  obtain ⟨e1, e2, e3⟩ := Value.slice.inj e9
  rw [← e1, ← e2] at hr9
  exact ⟨by rw [e2, e3]; exact h9, Lay.row_mono hr9 fun j hj _ => by
   rcases hj with hj | hj
   ·exact hj.elim
   ·exact (hlt j hj).1, hx⟩)
 have HRUN := Hd hrun
 have hs := HS.out w
 have hmin : min (n : Int) (n : Int) = (n : Int) := by omega
 clear h hl hrun ho hx
 go_enter Tryz.func214, Tryz.ntmps214
 go_wp2_with (first | (at_builtin; refine wpList_append_run (s := .tmp 6) (x := .tmp 12) HRUN.out rfl rfl rfl rfl rfl ?_))
 go_ret
 exact ⟨A', c', rfl, HF.out⟩
end
end Go.Proofs.YtdbnddmncbjobaaGreatDoor