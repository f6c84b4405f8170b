/- rollbookref28.Book: walked. -/
import Derived.Test.YtdbnddmncbjobaaGreatDoorMat
namespace Go.Proofs.YtdbnddmncbjobaaGreatDoor
section
open Go Go.RowKit
set_option maxHeartbeats 8000000 in
set_option maxRecDepth 100000 in
theorem gbook_any (A : Option Addr) (c : Nat) (l : List Int) (w : World) (h : IL w A c l) (hl : l.length ≤ 9223372036854775807) :
  Calls Tryz.prog 39 #[.slice A l.length c] w (BookGet w) := by
 have HTX := Hd (fun W (hW : Ext w W) (k : Nat) (hk : k ≤ 1000000) => gtextat_any A c l k W (h.ext hW) hl hk)
 obtain ⟨m, hm⟩ : ∃ m, m = l.length := ⟨_, rfl⟩
 have HP := Hd (fun W (hW : Ext w W) (i k : Nat) (ii mm : Int) h1 h2 h3 h4 => (show Calls Tryz.prog 77 #[.slice A m c, .int .i64 ii, .int .i64 mm] W (fun e w' => e = .returned (.int .i64 (pkI l i k)) ∧ W = w') from by rw [hm]; exact pick_fix A c l i k W ii mm h1 h2 h3 h4 h.ok (h.sl.ext hW)))
 rw [← hm] at HTX ⊢
 clear hm h hl
 obtain ⟨k0, hk0, hk0b⟩ := pk_nat l 0 30 (by omega)
 obtain ⟨k1, hk1, hk1b⟩ := pk_nat l 1 5 (by omega)
 obtain ⟨n, hn, hnb⟩ := pk_nat l 2 5 (by omega)
 obtain ⟨fr, hfr, hfrb⟩ := pk_nat l 3 (n + 1) (by omega)
 have H0 := Hd (fun W hW => (show Calls Tryz.prog 77 #[.slice A m c, .int .i64 0, .int .i64 30] W (fun e w' => e = .returned (.int .i64 (k0 : Int)) ∧ W = w') from by rw [← hk0]; exact HP.out W hW 0 30 0 30 rfl rfl (by omega) (by omega)))
 have H1 := Hd (fun W hW => (show Calls Tryz.prog 77 #[.slice A m c, .int .i64 1, .int .i64 5] W (fun e w' => e = .returned (.int .i64 (k1 : Int)) ∧ W = w') from by rw [← hk1]; exact HP.out W hW 1 5 1 5 rfl rfl (by omega) (by omega)))
 have H2 := Hd (fun W hW => (show Calls Tryz.prog 77 #[.slice A m c, .int .i64 2, .int .i64 5] W (fun e w' => e = .returned (.int .i64 (n : Int)) ∧ W = w') from by rw [← hn]; exact HP.out W hW 2 5 2 5 rfl rfl (by omega) (by omega)))
 have H3 := Hd (fun W hW => (show Calls Tryz.prog 77 #[.slice A m c, .int .i64 3, .int .i64 ((n : Int) + 1)] W (fun e w' => e = .returned (.int .i64 (fr : Int)) ∧ W = w') from by rw [← hfr]; exact HP.out W hW 3 (n + 1) 3 _ rfl (by simp) (by omega) (by omega)))
 clear hk0 hk1 hn hfr
 go_enter Tryz.func39, Tryz.ntmps39
 have hx1 : Ext w (w.alloc (.cells #[.int .i64 0, .int .i64 0, .slice none 0 0] 27)) := (Ext.refl w).alloc _
 go_upto_region 2 with (first
  | (have hg := A1; clear hg; go_at_call 77; refine (H1.out _ hx1).mono ?_; rintro e w1 ⟨rfl, rfl⟩)
  | (go_at_call 77; refine (H0.out _ hx1).mono ?_; rintro e w1 ⟨rfl, rfl⟩; have A1 := Hd True.intro))
 obtain ⟨wl, hwl⟩ : ∃ wl, ((w.alloc (.cells #[.int .i64 0, .int .i64 0, .slice none 0 0] 27)).alloc (.cells #[.int .i64 (500 + 20 * (k0 : Int)), .int .i64 (4 + (k1 : Int)), .slice none 0 0] 27)) = wl := ⟨_, rfl⟩
 obtain ⟨ms, hms⟩ : ∃ ms : Int, ms = 500 + 20 * (k0 : Int) := ⟨_, rfl⟩
 obtain ⟨ht, hht⟩ : ∃ ht : Int, ht = 4 + (k1 : Int) := ⟨_, rfl⟩
 have hS0 : BgS w ms ht fr [] (.slice none 0 0) wl := by
  refine ⟨by rw [← hwl]; exact hx1.alloc _, ?_, ?_, Lay.own_nil _ _ _ _ _, fun k x hk => by simp at hk⟩
  ·rw [← hwl, haO _ _ _ (by simp)]; exact haA _ _ _ _ rfl
  ·rw [← hwl, hms, hht]; exact haA _ _ _ _ (by simp)
 rw [hwl]
 have HM := Hd (And.intro hms hht)
 have HS0 := Hd hS0
 have HXL := Hd hS0.x
 clear hwl hms hht hS0 hx1
 go_upto_region 3 with (first | (go_at_call 77; refine (H2.out _ HXL.out).mono ?_; rintro e w1 ⟨rfl, rfl⟩))
 go_upto_region 4 with (first | (go_at_call 77; refine (H3.out _ HXL.out).mono ?_; rintro e w1 ⟨rfl, rfl⟩))
 clear H0 H1 H2 H3 A1
 go_wp2_with fail
 go_loopw [6] (fun s6 W => BgR w ms ht fr n s6 W) (fun s6 _ => toM n s6)
 case atStart => exact ⟨[], none, 0, by simp, rfl, HS0.out⟩
 obtain ⟨secs, As, cs, hi, rfl, hS⟩ := hrel
 clear HS0 HXL
 obtain ⟨i, hie⟩ : ∃ i, secs.length = i := ⟨_, rfl⟩
 rw [hie] at hi hS ⊢
 have HI := Hd hie
 have HS := Hd hS
 clear hie hS
 by_cases hlt : i < n
 case neg =>
  obtain rfl : i = n := by omega
  have hni : ¬ ((i : Int) < (i : Int)) := by omega
  have k0 := cof HS.out.r (i := 0) (u := .int .i64 0) rfl
  have k1 := cof HS.out.r (i := 1) (u := .int .i64 0) rfl
  have k2 := cof HS.out.r (i := 2) (u := .slice none 0 0) rfl
  have f0 := fof HS.out.r 0
  have f1 := fof HS.out.r 1
  have f2 := fof HS.out.r 2
  have b0 := cof HS.out.b (i := 0) (u := .int .i64 ms) rfl
  have b1 := cof HS.out.b (i := 1) (u := .int .i64 ht) rfl
  have b2 := cof HS.out.b (i := 2) (u := .slice As i cs) rfl
  go_wp2_with fail
  have hrow := own_rowN (Q := fun j => w.heap.size + 2 ≤ j) HS.out.own (fun j hj _ => hj) (fun j hj _ => hj)
  obtain ⟨A9, c9, e9, hc9, hr9⟩ := hrow
  rw [HI.out] at e9 hc9 hr9
  obtain ⟨rfl, _, rfl⟩ := Value.slice.inj e9
  refine bodyPost_ret (v := .agg #[.int .i64 ms, .int .i64 ht, .slice As i cs]) (by simp [results, Tryz.results39, go_sem, *]) rfl ?_
  obtain ⟨hm1, hm2⟩ := HM.out
  refine ⟨⟨ms, ht, secs⟩, As, i, cs, rfl, ⟨by show 500 ≤ ms; omega, by show ms ≤ 2000; omega, by show 4 ≤ ht; omega, by show ht ≤ 100; omega, by show secs.length ≤ 4; have := HI.out; omega, ⟨fr, HS.out.ok⟩⟩, hc9, ?_, ?_⟩
  ·refine Lay.row_mono (Lay.row_keep hr9 (by simp) fun j hj _ => ?_) fun j hj _ => by omega
   rw [heap_setCell_other _ ⟨w.heap.size, 2, none⟩ j _ (by show j ≠ w.heap.size; omega), heap_setCell_other _ ⟨w.heap.size, 1, none⟩ j _ (by show j ≠ w.heap.size; omega), heap_setCell_other _ ⟨w.heap.size, 0, none⟩ j _ (by show j ≠ w.heap.size; omega)]
  ·exact ((HS.out.x.setCell (p := ⟨w.heap.size, 0, none⟩) (Nat.le_refl _) _).setCell (p := ⟨w.heap.size, 1, none⟩) (Nat.le_refl _) _).setCell (p := ⟨w.heap.size, 2, none⟩) (Nat.le_refl _) _
 have hlI : (i : Int) < (n : Int) := by omega
 obtain ⟨k4, hk4, hk4b⟩ := pk_nat l (4 + i) 2 (by omega)
 have H4 := Hd (fun W hW => (show Calls Tryz.prog 77 #[.slice A m c, .int .i64 (4 + (i : Int)), .int .i64 2] W (fun e w' => e = .returned (.int .i64 (k4 : Int)) ∧ W = w') from by rw [← hk4]; exact HP.out W hW (4 + i) 2 _ _ (by omega) rfl (by omega) (by omega)))
 clear hk4
 go_upto_region 8 with (first | (go_at_call 77; refine (H4.out _ HS.out.x).mono ?_; rintro e w1 ⟨rfl, rfl⟩))
 obtain ⟨Bs, hBs⟩ : ∃ Bs, wr.heap.size = Bs := ⟨_, rfl⟩
 obtain ⟨ent, hent⟩ : ∃ ent : Int, 2 * (i : Int) + (k4 : Int) = ent := ⟨_, rfl⟩
 obtain ⟨fz, hfz⟩ : ∃ fz : Bool, decide (i < fr) = fz := ⟨_, rfl⟩
 obtain ⟨v0, hv0⟩ : ∃ v0 : Int, 10 - (i : Int) = v0 := ⟨_, rfl⟩
 obtain ⟨w1, hw1⟩ : ∃ w1, (wr.alloc (.cells #[.int .i64 v0] 3)).alloc (.cells #[.int .i64 ent, .bool fz, .slice (some ⟨Bs, 0, none⟩) 1 1, .slice none 0 0] 46) = w1 := ⟨_, rfl⟩
 obtain ⟨zs, hzs⟩ : ∃ zs, Bs + 1 = zs := ⟨_, rfl⟩
 rw [hBs, hent, hfz, hv0]
 rw [hw1, hzs]
 have HIN := Hd (show InS w ms ht fr secs (.slice As i cs) Bs zs ent fz (.slice (some ⟨Bs, 0, none⟩) 1 1) (.slice none 0 0) [v0] [] w1 from by
  have hlow := HS.out.low
  rw [hBs] at hlow
  have hxv : Ext wr (wr.alloc (.cells #[.int .i64 v0] 3)) := (Ext.refl wr).alloc _
  have hx1 : Ext wr w1 := by rw [← hw1]; exact hxv.alloc _
  have ho : kInt.own 3 (wr.alloc (.cells #[.int .i64 v0] 3)) Bs (fun _ => False) (.slice (some ⟨wr.heap.size, 0, none⟩) 1 1) [v0] := own_new (by omega) rfl
  rw [hBs] at ho
  refine ⟨hlow.keep (by rw [← hBs]; exact hx1), ?_, ?_, Lay.own_nil _ _ _ _ _, ?_, ?_, ?_, by omega⟩
  ·rw [← hw1]; exact haA _ _ _ _ (by simp; omega)
  ·rw [← hw1]; exact Lay.own_ext ho ((Ext.refl _).alloc _)
  ·intro e; have : some Bs = some zs := e; injection this; omega
  ·intro e; cases e
  ·intro j _ e; cases e)
 have HSO := Hd (And.intro hent (And.intro hfz hv0))
 have HB := Hd hBs
 have HK4 := Hd (show k4 ≤ 1 by omega)
 clear hBs hent hfz hv0 hw1 hzs
 have HT8 := Hd (fun W (hW : Ext w W) => (show Calls Tryz.prog 87 #[.slice A m c, .int .i64 (12 + 6 * (i : Int))] W (TextGet W) from by
  have h9 := HTX.out W hW (12 + 6 * i) (by omega)
  rw [show ((12 + 6 * i : Nat) : Int) = 12 + 6 * (i : Int) by omega] at h9
  exact h9))
 have HT8' := Hd (show Calls Tryz.prog 87 #[.slice A m c, .int .i64 (12 + 6 * (i : Int))] w1 (fun e w2 => ∃ t A1 n1 c1 A2 n2 c2, e = .returned (.agg #[.slice A1 n1 c1, .slice A2 n2 c2]) ∧ OkT t ∧ GT w1.heap.size t (.agg #[.slice A1 n1 c1, .slice A2 n2 c2]) w2 ∧ Ext w1 w2 ∧ w2.heap[zs]? = some (.cells #[.int .i64 ent, .bool fz, .slice (some ⟨Bs, 0, none⟩) 1 1, .slice none 0 0] 46 (0, 0))) from by
  refine (HT8.out w1 HIN.out.low.x).mono ?_
  rintro e w2 ⟨t, v, rfl, hok, hgt, hx⟩
  have hg2 := hgt
  obtain ⟨A1, n1, c1, A2, n2, c2, rfl, h1, h2, h3, h4⟩ := hgt
  exact ⟨t, A1, n1, c1, A2, n2, c2, rfl, hok, hg2, hx, (hx.block _ HIN.out.lt).trans HIN.out.s⟩)
 clear HT8
 go_upto_region 9 with (first | (go_at_call 87; refine (HT8'.out).mono ?_; rintro e w2 ⟨t, A1, n1, c1, A2, n2, c2, rfl, hok, hg, hx, hh⟩; have k3 := cof hh (i := 3) (u := .slice none 0 0) rfl; have f3 := fof hh 3; have hzl := lt_of_block hh; have hzn : ¬ zs = w2.heap.size := (by omega); have HG := Hd hg; have HX := Hd hx; have HH := Hd hh; have HOK := Hd hok; clear hg hx hh hok))
 obtain ⟨w3, hw3⟩ : ∃ w3, ((w2.setCell ⟨zs, 3, none⟩ (.slice (some ⟨w2.heap.size, 0, none⟩) 1 1)).alloc (.cells #[.slice A1 n1 c1, .slice A2 n2 c2] 53)) = w3 := ⟨_, rfl⟩
 have hin3 := HIN.out.firstT HX.out HG.out
 obtain ⟨zt, hzt⟩ : ∃ zt, w2.heap.size = zt := ⟨_, rfl⟩
 rw [hzt] at hw3 hin3 ⊢
 rw [hw3] at hin3 ⊢
 have HIN3 := Hd hin3
 clear hin3 hw3 hzt HIN HX HG HH HT8' hzl hzn k3 f3 H4
 obtain ⟨k8, hk8, hk8b⟩ := pk_nat l (8 + i) 3 (by omega)
 have H8 := Hd (fun W hW => (show Calls Tryz.prog 77 #[.slice A m c, .int .i64 (8 + (i : Int)), .int .i64 3] W (fun e w' => e = .returned (.int .i64 (k8 : Int)) ∧ W = w') from by rw [← hk8]; exact HP.out W hW (8 + i) 3 _ _ (by omega) rfl (by omega) (by omega)))
 clear hk8
 go_wp2_with fail
 go_loopw [8] (fun s8 W => InR w ms ht fr secs (.slice As i cs) Bs zs ent fz v0 i s8 W) (fun s8 _ => toM 10 s8)
 case atStart => exact ⟨0, _, _, _, _, _, _, by omega, rfl, fun h => absurd rfl h, rfl, rfl, fun t ht => by (simp only [List.mem_singleton] at ht; subst ht; exact HOK.out), HIN3.out⟩
 clear HIN3 HS HOK
 rename World => wi
 obtain ⟨k, Av, Bt, cv, dt, vers, texts, hk2, rfl, hkf, hve, htl, hto, hIn⟩ := hrel
 have HVE := Hd hve
 have HTL := Hd htl
 have HTO := Hd hto
 have HKF := Hd hkf
 have HIN := Hd hIn
 have s0 := cof hIn.s (i := 0) (u := .int .i64 ent) rfl
 have s1 := cof hIn.s (i := 1) (u := .bool fz) rfl
 have s2 := cof hIn.s (i := 2) (u := .slice Av (k + 1) cv) rfl
 have s3 := cof hIn.s (i := 3) (u := .slice Bt (k + 1) dt) rfl
 have f2 := fof hIn.s 2
 have f3 := fof hIn.s 3
 have hzl := hIn.lt
 clear hkf hve htl hto hIn
 by_cases hkk : k < k8 ∧ fz = true
 case neg =>
  have HSC := Hd (show SecOk fr secs.length ⟨ent, fz, vers, texts⟩ from by
   obtain ⟨e1, e2, e3⟩ := HSO.out
   rw [HI.out]
   refine ⟨⟨by show 2 * (i : Int) ≤ ent; omega, by show ent ≤ 2 * (i : Int) + 1; have := HK4.out; omega⟩, e2.symm, ⟨k, hk2, fun h0 => ?_, by rw [e3]; exact HVE.out, HTL.out⟩, HTO.out⟩
   have := HKF.out h0
   rw [← e2] at this
   simpa using this)
  obtain ⟨A5, c5, w5, hrun, hb5, hS5⟩ := HIN.out.fin (by have := HI.out; omega) HSC.out
  rw [HI.out] at hrun hS5
  have HREL := Hd (show BgR w ms ht fr n (.int .i64 ((i : Int) + 1)) (w5.setCell ⟨w.heap.size + 1, 2, none⟩ (.slice A5 (i + 1) c5)) from
   ⟨secs ++ [⟨ent, fz, vers, texts⟩], A5, c5, by rw [List.length_append, HI.out]; exact hlt, by rw [List.length_append, HI.out]; rfl, by rw [List.length_append, HI.out]; exact hS5⟩)
  have b2 := cof HIN.out.low.b (i := 2) (u := .slice As i cs) rfl
  have hbl : w.heap.size + 1 < wi.heap.size := lt_of_block HIN.out.low.b
  have hbn : ¬ w.heap.size + 1 = wi.heap.size := by omega
  have b5 := cof hb5 (i := 2) (u := .slice As i cs) rfl
  have g5 := fof hb5 2
  have hzn : ¬ zs = wi.heap.size := by omega
  clear hS5 hb5 hk2
  by_cases hk9 : k < k8
  ·have hf9 : fz = false := by
    cases fz
    ·rfl
    ·exact absurd ⟨hk9, rfl⟩ hkk
   subst hf9
   have gk : decide ((k : Int) < (k8 : Int)) = true := by rw [decide_eq_true_eq]; omega
   have gk2 : decide (k < k8) = true := by simpa using hk9
   clear hkk
   go_wp2_with (first
    | (go_at_call 77; refine (H8.out _ HIN.out.low.x).mono ?_; rintro e w1 ⟨rfl, rfl⟩)
    | (at_builtin; refine wpList_append_run (s := .tmp 86) (x := .tmp 88) hrun rfl rfl rfl rfl rfl ?_))
   go_roundw
   case rel => exact HREL.out
   case measure => simp only [toM]; omega
  ·have gk : decide ((k : Int) < (k8 : Int)) = false := by rw [decide_eq_false_iff_not]; omega
   have gk2 : decide (k < k8) = false := by simpa using hk9
   clear hkk
   go_wp2_with (first
    | (go_at_call 77; refine (H8.out _ HIN.out.low.x).mono ?_; rintro e w1 ⟨rfl, rfl⟩)
    | (at_builtin; refine wpList_append_run (s := .tmp 86) (x := .tmp 88) hrun rfl rfl rfl rfl rfl ?_))
   go_roundw
   case rel => exact HREL.out
   case measure => simp only [toM]; omega
 obtain ⟨hk8', hfz⟩ := hkk
 subst hfz
 have hkI : (k : Int) < (k8 : Int) := by omega
 have gk : decide ((k : Int) < (k8 : Int)) = true := by simpa using hk8'
 have gk2 : decide (k < k8) = true := by simpa using hk8'
 go_upto_region 12 with (first | (go_at_call 77; refine (H8.out _ HIN.out.low.x).mono ?_; rintro e w1 ⟨rfl, rfl⟩))
 have HVL := Hd (show vers.length = k + 1 by rw [HVE.out]; simp)
 obtain ⟨A5, c5, w5, hrun, hz5, hin5⟩ := HIN.out.appV (30 + 7 * (i : Int) - 3 * (k : Int)) (by have := HVL.out; omega)
 rw [HVL.out] at hrun hin5
 have z2 := cof hz5 (i := 2) (u := .slice Av (k + 1) cv) rfl
 have y2 := fof hz5 2
 have hzn : ¬ zs = wi.heap.size := by omega
 have HIN5 := Hd hin5
 clear hin5 hz5
 go_upto_region 13 with (first | (at_builtin; refine wpList_append_run (s := .tmp 62) (x := .tmp 69) hrun rfl rfl rfl rfl rfl ?_))
 obtain ⟨w6, hw6⟩ : ∃ w6, w5.setCell ⟨zs, 2, none⟩ (.slice A5 (k + 1 + 1) c5) = w6 := ⟨_, rfl⟩
 rw [hw6] at HIN5 ⊢
 clear hrun hw6 z2 y2 hzn s0 s1 s2 s3 f2 f3 hzl H8 HIN
 have hzl := HIN5.out.lt
 have hzn : ¬ zs = w6.heap.size := by omega
 have s3 := cof HIN5.out.s (i := 3) (u := .slice Bt (k + 1) dt) rfl
 have HT13 := Hd (fun W (hW : Ext w6 W) => (show Calls Tryz.prog 87 #[.slice A m c, .int .i64 (15 + 6 * (i : Int) + 7 * (k : Int))] W (fun e w2 => ∃ t A1 n1 c1 A2 n2 c2, e = .returned (.agg #[.slice A1 n1 c1, .slice A2 n2 c2]) ∧ OkT t ∧ GT w6.heap.size t (.agg #[.slice A1 n1 c1, .slice A2 n2 c2]) w2 ∧ Ext w6 w2) from by
  have h9 := HTX.out W (HIN5.out.low.x.trans hW) (15 + 6 * i + 7 * k) (by omega)
  rw [show ((15 + 6 * i + 7 * k : Nat) : Int) = 15 + 6 * (i : Int) + 7 * (k : Int) by omega] at h9
  refine h9.mono ?_
  rintro e w2 ⟨t, v, rfl, hok, hgt, hx⟩
  have hg2 := hgt.low hW.lt
  obtain ⟨A1, n1, c1, A2, n2, c2, rfl, h1, h2, h3, h4⟩ := hgt
  exact ⟨t, A1, n1, c1, A2, n2, c2, rfl, hok, hg2, hW.trans hx⟩))
 have g6 : IntKind.i64.wrap (6 * (i : Int)) = 6 * (i : Int) := IntWalk.i64_in _ (by omega)
 have g15 : IntKind.i64.wrap (15 + 6 * (i : Int)) = 15 + 6 * (i : Int) := IntWalk.i64_in _ (by omega)
 have g7 : IntKind.i64.wrap (7 * (k : Int)) = 7 * (k : Int) := IntWalk.i64_in _ (by omega)
 have g80 : IntKind.i64.wrap (15 + 6 * (i : Int) + 7 * (k : Int)) = 15 + 6 * (i : Int) + 7 * (k : Int) := IntWalk.i64_in _ (by omega)
 go_region_law (first
  | (go_simp; go_at_call 87; refine (HT13.out _ ((Ext.refl _).drew)).mono ?_; rintro e w1 ⟨t9, B1, m1, d1, B2, m2, d2, rfl, hok9, hg9, hx9⟩; obtain ⟨A7, c7, w7, hrun, hz7, hin7⟩ := HIN5.out.appT hx9 hg9 (by have := HTL.out; omega); have c01 := cof ((hx9.block _ HIN5.out.lt).trans HIN5.out.s) (i := 3) (u := .slice Bt (k + 1) dt) rfl; have c02 := cof ((((Ext.refl w1).alloc (.cells #[.slice B1 m1 d1, .slice B2 m2 d2] 53)).block _ (lt_of_block ((hx9.block _ HIN5.out.lt).trans HIN5.out.s))).trans ((hx9.block _ HIN5.out.lt).trans HIN5.out.s)) (i := 3) (u := .slice Bt (k + 1) dt) rfl; have z3 := cof hz7 (i := 3) (u := .slice Bt (k + 1) dt) rfl; have y3 := fof hz7 3; rw [HTL.out] at hrun hin7; have HIN7 := Hd hin7; have HRUN := Hd hrun; have HOK9 := Hd hok9; clear hok9 hg9 hx9 hrun hin7 hz7; simp only [])
  | (refine gstep_append_run (s := .tmp 73) (x := .tmp 82) HRUN.out rfl rfl rfl rfl rfl ?_))
 all_goals
  go_wp2
  refine ⟨⟨k + 1, A5, A7, c5, c7, vers ++ [30 + 7 * (i : Int) - 3 * (k : Int)], texts ++ [t9], by omega, rfl, fun _ => rfl, ?_, ?_, fun t ht => ?_, HIN7.out⟩, by simp only [toM]; omega⟩
  ·rw [HVE.out, List.range_succ, List.map_append]; rfl
  ·rw [List.length_append, HTL.out]; rfl
  ·rcases List.mem_append.1 ht with ht | ht
   ·exact HTO.out t ht
   ·simp only [List.mem_singleton] at ht; subst ht; exact HOK9.out
end
section
open Go Go.RowKit
end
section
open Go Go.RowKit
theorem OkB.big {b : Bk} {N V N' V' : Nat} (h : OkB b N V) (hN : N ≤ N') (hV : V ≤ V') : OkB b N' V' :=
 ⟨h.m0, h.m1, h.h0, h.h1, Nat.le_trans h.n hN, fun x hx => ⟨(h.vs x hx).1, (h.vs x hx).2.1, Nat.le_trans (h.vs x hx).2.2 hV⟩, h.tx, h.ent⟩
end
section
open Go Go.RowKit
theorem pagesT_all (R : List Ln → List Ln → Prop) (ent ver : Int) (first : Bool) : ∀ (ps : List (List Ln × List Ln)) (n s : Int), (∀ q ∈ ps, R q.1 q.2) → ∀ p ∈ (pagesT ent ver first ps n s).1, R p.body p.nts := by
 intro ps
 induction ps with
 | nil => intro n s _ p hp; simp [pagesT] at hp
 | cons a ps ih =>
  intro n s h p hp
  simp only [pagesT] at hp
  rcases List.mem_cons.1 hp with rfl | hp
  ·exact h a (by simp)
  ·exact ih _ _ (fun q hq => h q (by simp [hq])) p hp
theorem pagesV_all (R : List Ln → List Ln → Prop) (m h ent : Int) : ∀ (vs : List Int) (ts : List Tx) (f : Bool) (n s : Int), (∀ t ∈ ts, ∀ q ∈ (textP t m h).2, R q.1 q.2) → ∀ p ∈ (pagesV m h ent vs ts f n s).1, R p.body p.nts := by
 intro vs
 induction vs with
 | nil => intro ts f n s _ p hp; simp [pagesV] at hp
 | cons v vs ih =>
  intro ts f n s hk p hp
  cases ts with
  | nil => simp [pagesV] at hp
  | cons t ts =>
   simp only [pagesV] at hp
   rcases List.mem_append.1 hp with hp | hp
   ·exact pagesT_all R _ _ _ _ _ _ (hk t (by simp)) p hp
   ·exact ih ts _ _ _ (fun t ht => hk t (by simp [ht])) p hp
theorem pagesS_all (R : List Ln → List Ln → Prop) (m h : Int) : ∀ (l : List Se) (n : Int), (∀ x ∈ l, ∀ t ∈ x.texts, ∀ q ∈ (textP t m h).2, R q.1 q.2) → ∀ p ∈ pagesS m h l n, R p.body p.nts := by
 intro l
 induction l with
 | nil => intro n _ p hp; simp [pagesS] at hp
 | cons x l ih =>
  intro n hk p hp
  simp only [pagesS] at hp
  rcases List.mem_append.1 hp with hp | hp
  ·exact pagesV_all R _ _ _ _ _ _ _ _ (hk x (by simp)) p hp
  ·exact ih _ (fun y hy => hk y (by simp [hy])) p hp
theorem OkB.hgt {b : Bk} {N V : Nat} (h : OkB b N V) : ∀ p ∈ pagesB b, (p.body ++ p.nts).length ≤ 100 := by
 intro p hp
 have := pagesS_all (fun x y => x.length + y.length ≤ 100) b.ms b.ht b.secs 0 (fun x hx t ht q hq => by
  have h9 := (textP_ok (h.tx x hx t ht) h.m0 h.m1 h.h0 h.h1).2.2.2 q hq
  have := h.h1
  show q.1.length + q.2.length ≤ 100
  omega) p hp
 rw [List.length_append]
 exact this
end
section
def addP (b : Bk) (e v : Int) (t : Tx) : Bk := { b with secs := b.secs ++ [⟨e, false, [v], [t]⟩] }
theorem OkB.add {b : Bk} {N V : Nat} (h : OkB b N V) (hV : 1 ≤ V) {e : Int} (v : Int) {t : Tx} (ht : OkT t) (hn : ∀ y ∈ b.secs, y.ent ≠ e) : OkB (addP b e v t) (N + 1) V := by
 refine ⟨h.m0, h.m1, h.h0, h.h1, by have := h.n; simp [addP]; omega, fun x hx => ?_, fun x hx => ?_, ?_⟩
 ·simp only [addP, List.mem_append, List.mem_singleton] at hx
  rcases hx with hx | rfl
  ·exact h.vs x hx
  ·exact ⟨rfl, by simp, hV⟩
 ·simp only [addP, List.mem_append, List.mem_singleton] at hx
  rcases hx with hx | rfl
  ·exact h.tx x hx
  ·intro u hu
   simp only [List.mem_singleton] at hu
   subst hu; exact ht
 ·simp only [addP, List.map_append, List.map_cons, List.map_nil]
  rw [List.nodup_append]
  refine ⟨h.ent, by simp, fun a ha b' hb => ?_⟩
  obtain ⟨y, hy, rfl⟩ := List.mem_map.1 ha
  simp only [List.mem_singleton] at hb
  subst hb
  exact hn y hy
structure KpS (b0 : Bk) (e v : Int) (i : Nat) (b : Bk) : Prop where
 ok : OkB b (4 + i) (3 + i)
 kp : Keeps b0 b e v
 fz : frzIn b e = true
 fa : ∀ x ∈ b.secs, x.ent = e → x.fz = true
theorem KpS.succ {b0 b : Bk} {e v : Int} {i : Nat} (h : KpS b0 e v i b) : KpS b0 e v (i + 1) b := ⟨h.ok.big (by omega) (by omega), h.kp, h.fz, h.fa⟩
theorem OkT.pgs {b : Bk} {N V : Nat} (h : OkB b N V) {t : Tx} (ht : OkT t) : (textP t b.ms b.ht).2 ≠ [] ∧ (textP t b.ms b.ht).2.length ≤ 200 := by
 have := textP_ok ht h.m0 h.m1 h.h0 h.h1
 exact ⟨this.2.1, this.2.2.1⟩
theorem KpS.add {b0 b : Bk} {e v : Int} {i : Nat} (h : KpS b0 e v i b) {e' : Int} (v' : Int) {t : Tx} (ht : OkT t) (hn : ∀ y ∈ b.secs, y.ent ≠ e') : KpS b0 e v (i + 1) (addP b e' v' t) := by
 have h1 := (h.ok.big (N' := 4 + i) (V' := 3 + (i + 1)) (by omega) (by omega)).add (by omega) v' ht hn
 refine ⟨by rw [show 4 + (i + 1) = 4 + i + 1 by omega]; exact h1, h.kp.trans (keeps_add h.ok.okK e v ⟨e', false, [v'], [t]⟩ ⟨200, fun u hu => ?_⟩ ⟨by simp, rfl⟩ hn), ?_, fun x hx he => ?_⟩
 ·simp only [List.mem_singleton] at hu
  subst hu
  exact OkT.pgs h.ok ht
 ·have := h.fz
  unfold frzIn at this ⊢
  simp only [addP, List.any_append, this, Bool.true_or]
 ·simp only [addP, List.mem_append, List.mem_singleton] at hx
  rcases hx with hx | rfl
  ·exact h.fa x hx he
  ·exfalso
   have h2 := h.fz
   unfold frzIn at h2
   rw [List.any_eq_true] at h2
   obtain ⟨y, hy, h3⟩ := h2
   simp only [Bool.and_eq_true, beq_iff_eq] at h3
   exact hn y hy (h3.1.trans he.symm)
theorem KpS.start {b : Bk} (h : OkB b 4 3) (hf : ∀ x ∈ b.secs, x.fz = true) {br e v wd : Int} {y : Int × Int × Nat} (ho : ofP b br e v wd = some y) : KpS b e v 0 b := by
 refine ⟨h, Keeps.refl h.okK e v, ?_, fun x hx _ => hf x hx⟩
 unfold ofP at ho
 split at ho
 ·cases ho
 ·next hc => simp only [not_or] at hc; simpa using hc.2.2
theorem KpS.of {b0 b : Bk} {e v : Int} {i : Nat} (h : KpS b0 e v i b) {wd n s : Int} {k : Nat} (ho : ofP b0 0 e v wd = some (n, s, k)) : ofP b 0 e v wd = some (n, s, k) := by
 have h1 : whereP b0 e v wd = some (n, s, k) := by
  unfold ofP at ho
  split at ho
  ·cases ho
  ·exact ho
 unfold ofP
 rw [if_neg (by rw [h.fz]; simp)]
 exact h.kp.place wd _ h1
theorem KpS.find {b0 b : Bk} {e v : Int} {i : Nat} (h : KpS b0 e v i b) {n s line : Int} {p : Pg} {x : Ln} (hc : citP b0 n s line = some (p, x)) : citP b n s line = some (p, x) := by
 unfold citP at hc ⊢
 cases hp : pageP b0 n s with
 | none => rw [hp] at hc; cases hc
 | some q =>
  rw [hp] at hc
  rw [h.kp.page n s q hp]
  exact hc
end
end Go.Proofs.YtdbnddmncbjobaaGreatDoor