/- The walk of the law CiteScans. -/
import Derived.Test.YtbfogchdeijedaaDoorGv
import Derived.Deep.RegionHeld3
import Derived.Deep.DeepCutAuto
import Derived.Deep.CutBlock
namespace Go.Proofs.YtbfogchdeijedaaDoor
open Go Go.RowKit

def S1Rel (cs : List Int) (w : World) (g hb m c : Nat) (vn : Value) (pn : List Pg) (s10 s11 : Value) (W : World) : Prop := ∃ (i n : Nat) (pg : List Pg), i ≤ m ∧ s10 = .int .i64 n ∧ s11 = .int .i64 i ∧ pg.length = m ∧ n ≤ i * 1000 ∧ SS w W g (.slice (some ⟨hb, 0, none⟩) m c) pg vn pn ∧ Dn cs ((pg.map Pg.l).take i).flatten n
def S2Rel (cs : List Int) (w : World) (g hb m c : Nat) (vn : Value) (pn : List Pg) (i : Nat) (s10 s12 : Value) (W : World) : Prop := ∃ (k n : Nat) (pg : List Pg) (p : Pg), k ≤ p.l.length ∧ s10 = .int .i64 n ∧ s12 = .int .i64 k ∧ pg.length = m ∧ n ≤ i * 1000 + k ∧ SS w W g (.slice (some ⟨hb, 0, none⟩) m c) pg vn pn ∧ pg[i]? = some p ∧ Dn cs (((pg.map Pg.l).take i).flatten ++ p.l.take k) n
def S3Rel (N : Nat) (W : World) (s15 : Value) (X : World) : Prop := ∃ i : Nat, i ≤ N ∧ s15 = .int .i64 i ∧ Ext W X
def S4Rel (w : World) (g : Nat) (vp : Value) (pg : List Pg) (vn : Value) (q : Nat) (s8 : Value) (W : World) : Prop := (s8 = s8) ∧ ∃ pn : List Pg, pn.length = q ∧ SS w W g vp pg vn pn
set_option maxHeartbeats 4000000 in
set_option maxRecDepth 100000 in
theorem scans_any (A C : Option Addr) (ca cc : Nat) (l cs : List Int) (raw : ByteArray) (at_ : Int) (w : World) (hE : Env w) (hr : raw.size ≤ 4000000) (hat : -9223372036854775808 ≤ at_ ∧ at_ ≤ 9223372036854775807)
    (hlb : ∀ n ∈ l, -9223372036854775808 ≤ n ∧ n ≤ 9223372036854775807) (hl : SL icf 1 w A l.length l) (hcb : ∀ n ∈ cs, -9223372036854775808 ≤ n ∧ n ≤ 9223372036854775807) (hcs : SL icf 1 w C cs.length cs) :
    Calls Tryd.prog 6 #[.slice A l.length ca, .slice C cs.length cc, .string raw, .int .i64 at_] w (BoolPost true w) := by
  have HE := Lib.hid (fun X (hX : Ext w X) => hE.ext hX)
  obtain ⟨N, hN⟩ : ∃ N, N = cs.length := ⟨_, rfl⟩
  obtain ⟨M, hM⟩ : ∃ M, M = l.length := ⟨_, rfl⟩
  have hT := text_any A ca l w hlb hl
  rw [← hM] at hT ⊢
  rw [← hN] at hcs ⊢
  have HT := Lib.hid hT
  have HC := Lib.hid (fun X (hX : Ext w X) => hcs.ext hX)
  have HCB := Lib.hid (fun (j : Nat) (c : Int) (h : cs[j]? = some c) => hcb c (List.mem_of_getElem? h))
  have HN := Lib.hid hN
  have HR := Lib.hid hr
  clear hE hlb hl hcb hcs hN hr hM hT
  go_enter Tryd.func6, Tryd.ntmps6
  go_upto_region 2 with (first | (go_at_call 15; refine (HT.out).mono ?_; rintro e w1 ⟨A1, c1, pg, B1, d1, pn, rfl, p1, p4, n3, htx, hx1⟩))
  obtain ⟨hb, cap, p0, hv1, _, _, _⟩ := htx.1.at (i := 0) (by omega)
  simp only [Value.slice.injEq] at hv1
  obtain ⟨rfl, e7, rfl⟩ := hv1
  clear e7
  have hss := SS.new htx hx1
  clear htx hx1
  generalize w1.alloc (.cells #[.slice (some ⟨hb, 0, none⟩) pg.length c1, .slice B1 pn.length d1] 42) = w2 at *
  generalize w1.heap.size = g at *
  obtain ⟨m, hm⟩ : ∃ m, m = pg.length := ⟨_, rfl⟩
  obtain ⟨q, hq⟩ : ∃ q, q = pn.length := ⟨_, rfl⟩
  rw [← hm] at hss p1 p4 ⊢
  rw [← hq] at hss n3 ⊢
  have HSS := Lib.hid hss
  have HM := Lib.hid hm
  have HQN := Lib.hid hq
  clear hss hm hq
  go_wp2_with fail
  go_loopw [10, 11] (fun s10 s11 W => S1Rel cs w g hb m c1 (.slice B1 q d1) pn s10 s11 W) (fun _ s11 _ => toM 10 s11)
  case atStart => exact ⟨0, 0, pg, by omega, rfl, rfl, HM.out.symm, by omega, HSS.out, by simpa using Dn.nil cs⟩
  case round =>
    clear HSS HM HT
    obtain ⟨i, n, pg2, him, rfl, rfl, hl, hn, hss, hdn⟩ := hrel
    have HS := Lib.hid hss
    have HL := Lib.hid hl
    have HD := Lib.hid hdn
    clear hss hl hdn
    have c0 := HS.out.c0
    by_cases hlt : i < m
    · have hltI : (i : Int) < (m : Int) := by omega
      obtain ⟨hb', cap', p, hv, hpi, hok, hc⟩ := HS.out.p_at (i := i) (by rw [HL.out]; exact hlt)
      simp only [Value.slice.injEq, Option.some.injEq, Addr.mk.injEq] at hv
      obtain ⟨⟨rfl, _⟩, e8, rfl⟩ := hv
      have HPI := Lib.hid hpi
      clear hpi hok e8
      go_wp2_with fail
      go_loopw [10, 12] (fun s10 s12 W => S2Rel cs w g hb m c1 (.slice B1 q d1) pn i s10 s12 W) (fun _ s12 _ => toM 1001 s12)
      case atStart => exact ⟨0, n, pg2, p, by omega, rfl, rfl, HL.out, by omega, HS.out, HPI.out, by simpa using HD.out⟩
      case round =>
        clear HPI HD HL HS hc c0 hn
        obtain ⟨k, n, pg, p, hk, rfl, rfl, hl, hn, hss, hpi, hdn⟩ := hrel
        have HS := Lib.hid hss
        have HL := Lib.hid hl
        have HD := Lib.hid hdn
        clear hss hl hdn
        have c0 := HS.out.c0
        obtain ⟨hb', cap', p', hv, hpi', hok, hc⟩ := HS.out.p_at (i := i) (by rw [HL.out]; exact hlt)
        simp only [Value.slice.injEq, Option.some.injEq, Addr.mk.injEq] at hv
        obtain ⟨⟨rfl, _⟩, e8, rfl⟩ := hv
        obtain rfl := Option.some.inj (hpi'.symm.trans hpi)
        obtain ⟨G, cp, lw⟩ := p'
        obtain ⟨hrow, _, _, hlen, _⟩ := hok
        simp only at hrow hlen hc hk
        have HPI := Lib.hid hpi
        have HROW := Lib.hid hrow
        clear hpi hpi' e8 hrow
        obtain ⟨L, hL⟩ : ∃ L, L = lw.length := ⟨_, rfl⟩
        rw [← hL] at hk hlen hc
        have HLW := Lib.hid hL
        clear hL
        by_cases hkl : k < L
        · have hklI : (k : Int) < (L : Int) := by omega
          obtain ⟨x, hx⟩ : ∃ x, lw[k]? = some x := ⟨_, List.getElem?_eq_getElem (by have := HLW.out; omega)⟩
          have HX := Lib.hid hx
          clear hx
          by_cases hnN : n < N
          · have hnI : (n : Int) < (N : Int) := by omega
            obtain ⟨cb, off, z, rfl, hcb, hz, _, hcc⟩ := SL.at (HC.out _ HS.out.hx) (k := n) hnN
            have k0 := hcc 0 (.int .i64 z) rfl
            rw [Nat.mul_one, Nat.add_zero] at k0
            have HZ := Lib.hid hz
            obtain ⟨hz1, hz2⟩ := HCB.out n z hz
            clear hcc hz
            obtain ⟨dc, hdc⟩ : ∃ d, citOf z = d := ⟨_, rfl⟩
            obtain ⟨br, nu, su, li⟩ := dc
            have H7 := Lib.hid (fun X => (show Calls Tryd.prog 7 #[.int .i64 z] X (fun e X' => e = .returned (.agg #[.int .i64 br, .int .i64 nu, .int .i64 su, .int .i64 li]) ∧ Ext X X') from by
              have := cite_any z X hz1 hz2; unfold CitePost at this; rw [hdc] at this; exact this))
            obtain ⟨S, hS⟩ : ∃ S, S = citS z := ⟨_, rfl⟩
            have HSE := Lib.hid hS
            have hSs : S.size ≤ 1000 := text_small z S hS
            have H9 := Lib.hid (fun X (hX : Ext w X) => (show Calls Tryd.prog 9 #[.agg #[.int .i64 br, .int .i64 nu, .int .i64 su, .int .i64 li]] X (fun e X' => e = .returned (.string S) ∧ Ext X X') from by
              rw [hS, citS, hdc]; exact tx4 br nu su li X (HE.out X hX).tab))
            clear hS hdc hz1 hz2
            have HQ := Lib.hid (fun X (hX : Ext wr X) => (show X.cell? ⟨g, 0, none⟩ = some (.slice (some ⟨hb, 0, none⟩) m c1) ∧ X.cell? ⟨hb, i, none⟩ = some (.slice (some ⟨G, 0, none⟩) L cp) ∧ X.cell? ⟨cb, off + n, none⟩ = some (.int .i64 z) ∧ X.cell? ⟨G, k * 4, none⟩ = some (.string x.s) ∧ X.frozen? ⟨G, k * 4, none⟩ = false from by
              have h9 := HS.out.ext hX
              obtain ⟨hb', cap', p', hv, hpi', hok, hc'⟩ := h9.p_at (i := i) (by rw [HL.out]; exact hlt)
              simp only [Value.slice.injEq, Option.some.injEq, Addr.mk.injEq] at hv
              obtain ⟨⟨rfl, _⟩, e8, rfl⟩ := hv
              obtain rfl := Option.some.inj (hpi'.symm.trans HPI.out)
              simp only at hc'
              rw [← HLW.out] at hc'
              have hr := HROW.out.ext hX
              have hq := hX.cells.1 cb (off + n) hcb
              exact ⟨h9.c0, hc', hq.trans k0, hr.cell HX.out (j := 0) rfl, hr.froz _⟩))
            obtain ⟨q0, q1, q2, q3, q4⟩ := HQ.out wr (Ext.refl _)
            clear hc c0 k0 hcb
            have hxw := HS.out.hx
            go_upto_region 10 with (fail)
            go_region_law (first
              | (go_simp; go_at_call 7; refine (H7.out _).mono ?_; rintro e w3 ⟨rfl, hx3⟩; obtain ⟨r0, r1, r2, r3, r4⟩ := HQ.out w3 ((Ext.refl _).drew.trans hx3); simp only [])
              | (go_simp; go_at_call 9; refine (H9.out _ ((hxw.drew).trans hx3)).mono ?_; rintro e w4 ⟨rfl, hx4⟩; obtain ⟨t0, t1, t2, t3, t4⟩ := HQ.out w4 (((Ext.refl _).drew.trans hx3).trans hx4); simp only []))
            all_goals
              go_wp2
              refine ⟨⟨k + 1, n + 1, _, _, ?_, rfl, by simp, ?_, by omega, (HS.out.ext (((Ext.refl _).drew.trans hx3).trans hx4)).setP HPI.out HX.out S (by omega), List.getElem?_set_self (by rw [HL.out]; exact hlt), ?_⟩, by simp only [toM]; omega⟩
              · simp only [List.length_set]; have := HLW.out; omega
              · rw [List.length_set]; exact HL.out
              · simp only
                rw [take_set_l, take_put lw k x _ HX.out, ← List.append_assoc]
                exact HD.out.put HZ.out _ HSE.out
          · have hnI : ¬ (n : Int) < (N : Int) := by omega
            go_wp2_with fail
            refine ⟨⟨k + 1, n, pg, _, ?_, rfl, by simp, HL.out, by omega, HS.out, HPI.out, ?_⟩, by simp only [toM]; omega⟩
            · simp only; have := HLW.out; omega
            · simp only
              rw [take_same lw k x HX.out, ← List.append_assoc]
              exact HD.out.keep (by have := HN.out; omega) x
        · have hklI : ¬ (k : Int) < (L : Int) := by omega
          go_wp2_with fail
          refine ⟨⟨i + 1, n, pg, by omega, rfl, by simp, HL.out, by omega, HS.out, ?_⟩, by simp only [toM]; omega⟩
          rw [take_next pg i _ HPI.out]
          have h9 := HD.out
          simp only at h9
          rwa [List.take_of_length_le (l := lw) (i := k) (by have := HLW.out; omega)] at h9
    · have hltI : ¬ (i : Int) < (m : Int) := by omega
      have hdl := HD.out
      rw [List.take_of_length_le (by have := HL.out; simp; omega)] at hdl
      have hlist := hdl.list (pn := pn)
      obtain ⟨P, hP⟩ : ∃ P, P = scanP (lls pg2 pn) := ⟨_, rfl⟩
      obtain ⟨R, hR⟩ : ∃ R, R = P.length := ⟨_, rfl⟩
      have hP7 : R ≤ 7000 := by
        obtain ⟨_, _, _, _, _, _, _, _, _, h7, _⟩ := HS.out.form (by have := HL.out; omega) (by have := HQN.out; omega)
        rw [hR, hP]; exact h7
      rw [← hP, ← hR] at hlist
      obtain ⟨hnR, hnN0, hcit⟩ := hlist
      rw [← HN.out] at hnN0
      have HCIT := Lib.hid hcit
      have HSC := Lib.hid (fun X (hX : Ext wr X) => (show Calls Tryd.prog 16 #[.agg #[.slice (some ⟨hb, 0, none⟩) m c1, .slice B1 q d1]] X (fun e X' => ∃ A c, e = .returned (.slice A R c) ∧ SL ccf 4 X' A R P ∧ Ext X X') from by
        have := (HS.out.ext hX).scan (by have := HL.out; omega) (by have := HQN.out; omega) (HE.out X (HS.out.hx.trans hX))
        rw [← hP] at this; rw [hR]; exact this))
      have HRC := Lib.hid (fun X (hX : Ext wr X) => (show Calls Tryd.prog 17 #[.agg #[.slice (some ⟨hb, 0, none⟩) m c1, .slice B1 q d1]] X (fun e X' => ∃ A c, e = .returned (.slice A R c) ∧ SL ccf 4 X' A R P ∧ Ext X X') from by
        have := (HS.out.ext hX).rscan (by have := HL.out; omega) (by have := HQN.out; omega)
        rw [← hP] at this; rw [hR]; exact this))
      have HRP := Lib.hid hR
      have z1 := HS.out.c1
      have hnI : ¬ (R : Int) < (n : Int) := by omega
      have hnN2 : ¬ R < n := by omega
      have hnD : decide (R < n) = false := decide_eq_false hnN2
      clear hdl hP hR hcit HD
      go_wp2_with (first
        | (go_at_call 16; refine (HSC.out _ (Ext.refl _)).mono ?_; rintro e w3 ⟨A5, c5, rfl, hs5, hx3⟩; have e0 := (HS.out.ext hx3).c0; have e1 := (HS.out.ext hx3).c1; have HS5 := Lib.hid hs5; clear hs5)
        | (go_at_call 17; refine (HRC.out _ hx3).mono ?_; rintro e w4 ⟨A6, c6, rfl, hs6, hx4⟩; have HS6 := Lib.hid hs6; clear hs6))
      have HX4 := Lib.hid hx4
      have HX3 := Lib.hid hx3
      clear hx3 hx4 e0 e1 c0 z1 HSC HRC
      go_loopw [15] (fun s15 W => S3Rel R w4 s15 W) (fun s15 _ => toM 7001 s15)
      case atStart => exact ⟨0, by omega, rfl, Ext.refl _⟩
      case round =>
        obtain ⟨j, hj, rfl, hxr⟩ := hrel
        have HXR := Lib.hid hxr
        by_cases hjR : j < R
        · have hjI : (j : Int) < (R : Int) := by omega
          obtain ⟨b5, o5, ct, rfl, hb5, hct, _, hc5⟩ := SL.at (HS5.out.ext (HX4.out.trans hxr)) hjR
          obtain ⟨b6, o6, ct', rfl, hb6, hct', _, hc6⟩ := SL.at (HS6.out.ext hxr) hjR
          obtain rfl := Option.some.inj (hct'.symm.trans hct)
          obtain ⟨br, nu, su, li⟩ := ct'
          have x0 := hc5 0 (.int .i64 br) rfl
          have x1 := hc5 1 (.int .i64 nu) rfl
          have x2 := hc5 2 (.int .i64 su) rfl
          have x3 := hc5 3 (.int .i64 li) rfl
          have y0 := hc6 0 (.int .i64 br) rfl
          have y1 := hc6 1 (.int .i64 nu) rfl
          have y2 := hc6 2 (.int .i64 su) rfl
          have y3 := hc6 3 (.int .i64 li) rfl
          rw [Nat.add_zero] at x0 y0
          have HCT := Lib.hid hct
          clear hc5 hc6 hct hct' hxr
          by_cases hjn : j < n
          · have gdI : (j : Int) < (n : Int) := by omega
            have gd : decide ((j : Int) < (n : Int)) = true := by rw [decide_eq_true_eq]; omega
            have hjN : j < N := by omega
            obtain ⟨cb, off, z, rfl, hcb, hz, _, hcc⟩ := SL.at (HC.out _ (((HS.out.hx.trans HX3.out).trans HX4.out).trans HXR.out)) hjN
            have k0 := hcc 0 (.int .i64 z) rfl
            rw [Nat.mul_one, Nat.add_zero] at k0
            obtain ⟨hz1, hz2⟩ := HCB.out j z hz
            have hcz := HCIT.out j z hjn hz
            have H7 := Lib.hid (fun X => (show Calls Tryd.prog 7 #[.int .i64 z] X (fun e X' => e = .returned (.agg #[.int .i64 br, .int .i64 nu, .int .i64 su, .int .i64 li]) ∧ Ext X X') from by
              have := cite_any z X hz1 hz2
              unfold CitePost at this
              rw [Option.some.inj (hcz.symm.trans HCT.out)] at this; exact this))
            have hjNI : (j : Int) < (N : Int) := by omega
            clear hcz hcc hz hz1 hz2 hjN
            have HQ := Lib.hid (fun X (hX : Ext wr X) => (show X.cell? ⟨b5, o5 + j * 4, none⟩ = some (.int .i64 br) ∧ X.cell? ⟨b5, o5 + j * 4 + 1, none⟩ = some (.int .i64 nu) ∧ X.cell? ⟨b5, o5 + j * 4 + 2, none⟩ = some (.int .i64 su) ∧ X.cell? ⟨b5, o5 + j * 4 + 3, none⟩ = some (.int .i64 li) ∧ X.cell? ⟨b6, o6 + j * 4, none⟩ = some (.int .i64 br) ∧ X.cell? ⟨b6, o6 + j * 4 + 1, none⟩ = some (.int .i64 nu) ∧ X.cell? ⟨b6, o6 + j * 4 + 2, none⟩ = some (.int .i64 su) ∧ X.cell? ⟨b6, o6 + j * 4 + 3, none⟩ = some (.int .i64 li) ∧ X.cell? ⟨cb, off + j, none⟩ = some (.int .i64 z) from
              ⟨(hX.cells.1 _ _ hb5).trans x0, (hX.cells.1 _ _ hb5).trans x1, (hX.cells.1 _ _ hb5).trans x2, (hX.cells.1 _ _ hb5).trans x3, (hX.cells.1 _ _ hb6).trans y0, (hX.cells.1 _ _ hb6).trans y1, (hX.cells.1 _ _ hb6).trans y2, (hX.cells.1 _ _ hb6).trans y3, (hX.cells.1 _ _ hcb).trans k0⟩))
            go_upto_region 19 with (fail)
            have hcur : Ext wr wr.drew := (Ext.refl _).drew
            go_region_held3 (fun X => X.cell? ⟨b5, o5 + j * 4, none⟩ = some (.int .i64 br) ∧ X.cell? ⟨b5, o5 + j * 4 + 1, none⟩ = some (.int .i64 nu) ∧ X.cell? ⟨b5, o5 + j * 4 + 2, none⟩ = some (.int .i64 su) ∧ X.cell? ⟨b5, o5 + j * 4 + 3, none⟩ = some (.int .i64 li) ∧ X.cell? ⟨b6, o6 + j * 4, none⟩ = some (.int .i64 br) ∧ X.cell? ⟨b6, o6 + j * 4 + 1, none⟩ = some (.int .i64 nu) ∧ X.cell? ⟨b6, o6 + j * 4 + 2, none⟩ = some (.int .i64 su) ∧ X.cell? ⟨b6, o6 + j * 4 + 3, none⟩ = some (.int .i64 li) ∧ X.cell? ⟨cb, off + j, none⟩ = some (.int .i64 z)) (first | exact HQ.out _ hcur | go_keep) (first
              | (go_at_call 7; refine (H7.out _).mono ?_; rintro e wn ⟨rfl, hx⟩; have hcur := hcur.trans hx; clear hx))
            have HREL := Lib.hid (show S3Rel R w4 (.int .i64 ((j : Int) + 1)) wn from ⟨j + 1, by omega, by simp, HXR.out.trans hcur⟩)
            have hlt : toM 7001 (.int .i64 ((j : Int) + 1)) < toM 7001 (.int .i64 (j : Int)) := by simp only [toM]; omega
            go_wp2
            first | exact ⟨HREL.out, hlt⟩ | (refine ⟨?_, hlt⟩; (repeat apply Exists.intro); refine ⟨?_, rfl⟩; exact HREL.out)
          · have gdI : ¬ (j : Int) < (n : Int) := by omega
            have gd : decide ((j : Int) < (n : Int)) = false := by rw [decide_eq_false_iff_not]; omega
            go_upto_region 19 with (fail)
            go_quiet (fail)
            go_wp2
            exact ⟨⟨j + 1, by omega, by simp, HXR.out.trans ((Ext.refl _).drewN _)⟩, by simp only [toM]; omega⟩
        · have hjI : ¬ (j : Int) < (R : Int) := by omega
          have HSW := Lib.hid (HS.out.ext ((HX3.out.trans HX4.out).trans hxr))
          clear HS5 HS6 HX3 HX4 HXR hxr HCIT HRP HC HCB
          have z0 := HSW.out.c0
          have z1 := HSW.out.c1
          have hpl : pg2.length ≤ 4 := by have := HL.out; omega
          have HVP := Lib.hid hpl
          clear hpl
          by_cases hq0 : 0 < q
          · have hqI : 0 < (q : Int) := by omega
            obtain ⟨hn', cap', p', hv, hpi', hok, hc'⟩ := HSW.out.n_at (i := 0) (by have := HQN.out; omega)
            simp only [Value.slice.injEq] at hv
            obtain ⟨rfl, e8, rfl⟩ := hv
            obtain ⟨G, cp, lw⟩ := p'
            obtain ⟨hrow, _, hl1, hlen, _⟩ := hok
            simp only at hrow hlen hl1 hc'
            have HPI := Lib.hid hpi'
            have HROW := Lib.hid hrow
            clear hpi' hrow e8
            obtain ⟨L, hL⟩ : ∃ L, L = lw.length := ⟨_, rfl⟩
            rw [← hL] at hl1 hlen hc'
            have HLW := Lib.hid hL
            clear hL
            have hLI : 0 < (L : Int) := by omega
            have hk := arnd_in at_ (L : Int) (by omega)
            obtain ⟨k, hk2⟩ : ∃ k : Nat, arnd at_ (L : Int) = k := ⟨(arnd at_ (L : Int)).toNat, by omega⟩
            have hkL : k < L := by omega
            have hkI : (k : Int) < (L : Int) := by omega
            have H8 := Lib.hid (fun X => (show Calls Tryd.prog 8 #[.int .i64 at_, .int .i64 (L : Int)] X (fun e X' => e = .returned (.int .i64 (k : Int)) ∧ X = X') from by
              rw [← hk2]; exact around_fn at_ L X hat.1 hat.2 (by omega) (by omega)))
            clear hk hk2
            obtain ⟨x, hx⟩ : ∃ x, lw[k]? = some x := ⟨_, List.getElem?_eq_getElem (by have := HLW.out; omega)⟩
            have HX := Lib.hid hx
            clear hx
            have s0 := HROW.out.cell HX.out (j := 0) rfl
            have s1 := HROW.out.froz (k * 4)
            rw [Nat.add_zero] at s0
            go_upto_if 113 with (fail)
            go_cut [8] (fun s8 wx => S4Rel w g (.slice (some ⟨hb, 0, none⟩) m c1) pg2 (.slice (some ⟨hn', 0, none⟩) q d1) q s8 wx)
            case first =>
              go_upto_region 22 with (fail)
              go_region_law (first
                | (go_simp; go_at_call 8; refine (H8.out _).mono ?_; rintro e w3 ⟨rfl, rfl⟩; simp only []))
              all_goals
                go_wp2
                go_meet
                case rel =>
                  exact ⟨rfl, _, by rw [List.length_set]; exact HQN.out.symm, (HSW.out.ext (Ext.refl _).drew).setN HPI.out HX.out raw HR.out⟩
            case rest =>
              obtain ⟨_, pn2, hpl2, hss2⟩ := hcut
              have HPL2 := Lib.hid hpl2
              have HS2 := Lib.hid hss2
              clear HSW HS HPI HROW hss2 z0 z1 s0 s1 hc' H8 hpl2
              have hplL : pn2.length ≤ 3 := by rw [HPL2.out]; omega
              obtain ⟨P2, hP2⟩ : ∃ P2, P2 = scanP (lls pg2 pn2) := ⟨_, rfl⟩
              obtain ⟨R2, hR2⟩ : ∃ R2, R2 = P2.length := ⟨_, rfl⟩
              have HW := HS2
              have HSC := Lib.hid (fun X (hX : Ext wc X) => (show Calls Tryd.prog 16 #[.agg #[.slice (some ⟨hb, 0, none⟩) m c1, .slice (some ⟨hn', 0, none⟩) q d1]] X (fun e X' => ∃ A c, e = .returned (.slice A R2 c) ∧ SL ccf 4 X' A R2 P2 ∧ Ext X X') from by
                have := (HW.out.ext hX).scan HVP.out hplL (HE.out X (HW.out.hx.trans hX))
                rw [← hP2] at this; rw [hR2]; exact this))
              have HRC := Lib.hid (fun X (hX : Ext wc X) => (show Calls Tryd.prog 17 #[.agg #[.slice (some ⟨hb, 0, none⟩) m c1, .slice (some ⟨hn', 0, none⟩) q d1]] X (fun e X' => ∃ A c, e = .returned (.slice A R2 c) ∧ SL ccf 4 X' A R2 P2 ∧ Ext X X') from by
                have := (HW.out.ext hX).rscan HVP.out hplL
                rw [← hP2] at this; rw [hR2]; exact this))
              have HQ := Lib.hid (fun X (hX : Ext wc X) => (show X.cell? ⟨g, 0, none⟩ = some (.slice (some ⟨hb, 0, none⟩) m c1) ∧ X.cell? ⟨g, 1, none⟩ = some (.slice (some ⟨hn', 0, none⟩) q d1) from ⟨(HW.out.ext hX).c0, (HW.out.ext hX).c1⟩))
              obtain ⟨u0, u1⟩ := HQ.out wc (Ext.refl _)
              have HX9 := Lib.hid HW.out.hx
              clear hP2 hR2 hplL HW
              go_upto_region 23 with (fail)
              have hcur : Ext wc wc.drew := (Ext.refl _).drew
              go_region_held3 (fun X => X.cell? ⟨g, 0, none⟩ = some (.slice (some ⟨hb, 0, none⟩) m c1) ∧ X.cell? ⟨g, 1, none⟩ = some (.slice (some ⟨hn', 0, none⟩) q d1)) (first | exact HQ.out _ hcur | go_keep) (first
                | (go_at_call 16; refine (HSC.out _ hcur).mono ?_; rintro e wn ⟨A8, c8, rfl, _, hx⟩; have hcur := hcur.trans hx; clear hx)
                | (go_at_call 17; refine (HRC.out _ hcur).mono ?_; rintro e wn ⟨A9, c9, rfl, _, hx⟩; have hcur := hcur.trans hx; clear hx)
                | (go_at_call 11; refine (lives_any _ (HE.out _ (HX9.out.trans hcur))).mono ?_; rintro e wn ⟨rfl, hx⟩; have hcur := hcur.trans hx; clear hx))
              go_wp2
              go_ret
              exact ⟨rfl, HX9.out.trans hcur⟩
          · have hqI : ¬ 0 < (q : Int) := by omega
            have hplL : pn.length ≤ 3 := by rw [← HQN.out]; omega
            obtain ⟨P2, hP2⟩ : ∃ P2, P2 = scanP (lls pg2 pn) := ⟨_, rfl⟩
            obtain ⟨R2, hR2⟩ : ∃ R2, R2 = P2.length := ⟨_, rfl⟩
            have HW := HSW
            have HSC := Lib.hid (fun X (hX : Ext wr X) => (show Calls Tryd.prog 16 #[.agg #[.slice (some ⟨hb, 0, none⟩) m c1, .slice B1 q d1]] X (fun e X' => ∃ A c, e = .returned (.slice A R2 c) ∧ SL ccf 4 X' A R2 P2 ∧ Ext X X') from by
              have := (HW.out.ext hX).scan HVP.out hplL (HE.out X (HW.out.hx.trans hX))
              rw [← hP2] at this; rw [hR2]; exact this))
            have HRC := Lib.hid (fun X (hX : Ext wr X) => (show Calls Tryd.prog 17 #[.agg #[.slice (some ⟨hb, 0, none⟩) m c1, .slice B1 q d1]] X (fun e X' => ∃ A c, e = .returned (.slice A R2 c) ∧ SL ccf 4 X' A R2 P2 ∧ Ext X X') from by
              have := (HW.out.ext hX).rscan HVP.out hplL
              rw [← hP2] at this; rw [hR2]; exact this))
            have HQ := Lib.hid (fun X (hX : Ext wr X) => (show X.cell? ⟨g, 0, none⟩ = some (.slice (some ⟨hb, 0, none⟩) m c1) ∧ X.cell? ⟨g, 1, none⟩ = some (.slice B1 q d1) from ⟨(HW.out.ext hX).c0, (HW.out.ext hX).c1⟩))
            obtain ⟨u0, u1⟩ := HQ.out wr (Ext.refl _)
            have HX9 := Lib.hid HW.out.hx
            clear hP2 hR2 hplL HW
            go_upto_region 23 with (fail)
            have hcur : Ext wr wr.drew := (Ext.refl _).drew
            go_region_held3 (fun X => X.cell? ⟨g, 0, none⟩ = some (.slice (some ⟨hb, 0, none⟩) m c1) ∧ X.cell? ⟨g, 1, none⟩ = some (.slice B1 q d1)) (first | exact HQ.out _ hcur | go_keep) (first
              | (go_at_call 16; refine (HSC.out _ hcur).mono ?_; rintro e wn ⟨A8, c8, rfl, _, hx⟩; have hcur := hcur.trans hx; clear hx)
              | (go_at_call 17; refine (HRC.out _ hcur).mono ?_; rintro e wn ⟨A9, c9, rfl, _, hx⟩; have hcur := hcur.trans hx; clear hx)
              | (go_at_call 11; refine (lives_any _ (HE.out _ (HX9.out.trans hcur))).mono ?_; rintro e wn ⟨rfl, hx⟩; have hcur := hcur.trans hx; clear hx))
            go_wp2
            go_ret
            exact ⟨rfl, HX9.out.trans hcur⟩
end Go.Proofs.YtbfogchdeijedaaDoor
