/- The walk of the law FactsDelta. -/
import Derived.Test.YthjjdeabfnlbjaaLaw
import Derived.Test.YthjjdeabfnlbjaaPlain7
namespace Go.Proofs.Ythjjdeabfnlbjaa
open Go Go.RowKit

theorem delta_facts (l : List Vr) (fr un : Int) : (wout (atL l fr) (remL l fr un)).length + (remL l fr un).length = (atL l fr).length ∧ (atL l un).length = (wout (atL l fr) (remL l fr un)).length + (addL l fr un).length ∧
    wout (atL l un) (addL l fr un) = wout (atL l fr) (remL l fr un) := by
  have h1 := wout_com (atL l fr) (atL l un)
  have h2 := wout_com (atL l un) (atL l fr)
  have h3 := com_comm (atL_at l fr).sorted (atL_at l un).sorted
  have e1 : wout (atL l fr) (remL l fr un) = com (atL l fr) (atL l un) := wout_wout _ _
  have e2 : wout (atL l un) (addL l fr un) = com (atL l un) (atL l fr) := wout_wout _ _
  rw [e1, e2, h3]
  have e3 : (remL l fr un).length = (wout (atL l fr) (atL l un)).length := rfl
  have e4 : (addL l fr un).length = (wout (atL l un) (atL l fr)).length := rfl
  rw [e3, e4]
  rw [h3] at h1
  exact ⟨by omega, by omega, rfl⟩
theorem wo_any (A A' : Option Addr) (c c' : Nat) (a b m : List Fc) (W : World) (hl : a.length ≤ 6) (hl' : b.length ≤ 6) (h : SF W W.heap.size A a.length a) (h' : SF W W.heap.size A' b.length b) (e : wout a b = m) :
    Calls Try.prog 28 #[.slice A a.length c, .slice A' b.length c'] W (RowF m W) :=
  (without_any A A' _ _ c c' a b W (by omega) (by omega) h h').mono fun _ _ ⟨x, A2, c2, h1, h2, h3, h4⟩ => by
    subst h2
    subst e
    exact ⟨A2, c2, h1, Nat.le_trans (wout_len _ _) hl, h3.sf, h4⟩

set_option maxRecDepth 100000 in
set_option maxHeartbeats 2000000 in
theorem delta_walk (A : Option Addr) (n c : Nat) (f : Nat → Int) (fr un : Int) (w : World) (hn : n ≤ maxLen) (hnc : n ≤ c) (hcm : c ≤ maxLen) (h : SI w w.heap.size A n f) :
    Calls Try.prog 9 #[.slice A n c, .int .i64 fr, .int .i64 un] w fun e w' => e = .returned (.bool true) ∧ Ext w w' := by
  have HS := Lib.hid h; clear h
  go_enter Try.func9, Try.ntmps9
  go_wp2_with fail
  refine (vs_any A n c f w _ hn hnc hcm HS.out (Ext.refl _)).mono ?_
  rintro e w1 ⟨L, A1, c1, top, rfl, hv, hg, _, _, hx1⟩
  have HV := Lib.hid hv
  have HX1 := Lib.hid hx1
  clear hv hg hx1 HS
  go_wp2_with fail
  refine (HV.out.at20 fr _ (Ext.refl _)).mono ?_
  rintro e w2 ⟨A2, c2, rfl, hl2, hs2, hx2⟩
  have HS2 := Lib.hid hs2
  have HX2 := Lib.hid hx2
  clear hs2 hx2
  go_wp2_with fail
  refine (HV.out.at20 un _ HX2.out).mono ?_
  rintro e w3 ⟨A3, c3, rfl, hl3, hs3, hx3⟩
  have HS3 := Lib.hid hs3
  have HX3 := Lib.hid hx3
  clear hs3 hx3
  go_wp2_with fail
  refine (HV.out.chg26 fr un _ (HX2.out.trans HX3.out)).mono ?_
  rintro e w4 ⟨D1, D2, d1, d2, rfl, hl4, hl5, hs4, hs5, hx4⟩
  have HS4 := Lib.hid hs4
  have HS5 := Lib.hid hs5
  have HX4 := Lib.hid hx4
  clear hs4 hs5 hx4
  go_wp2_with fail
  refine (HV.out.chg26 un fr _ ((HX2.out.trans (HX3.out.trans HX4.out)).alloc _)).mono ?_
  rintro e w5 ⟨E1, E2, g1, g2, rfl, hl6, hl7, hs6, hs7, hx5⟩
  have hD := (Bk.new w4 44 #[.slice D1 (addL L fr un).length d1, .slice D2 (remL L fr un).length d2]).ext hx5
  have hx45 := ((Ext.refl w4).alloc (.cells #[.slice D1 (addL L fr un).length d1, .slice D2 (remL L fr un).length d2] 44)).trans hx5
  have hE := Bk.new w5 44 #[.slice E1 (addL L un fr).length g1, .slice E2 (remL L un fr).length g2]
  have hx6 := (Ext.refl w5).alloc (.cells #[.slice E1 (addL L un fr).length g1, .slice E2 (remL L un fr).length g2] 44)
  obtain ⟨w6, hw6⟩ : ∃ w6, w6 = w5.alloc (.cells #[.slice E1 (addL L un fr).length g1, .slice E2 (remL L un fr).length g2] 44) := ⟨_, rfl⟩
  have hlt : w4.heap.size < w5.heap.size := hD.lt
  have HD := Lib.hid (hD.ext hx6)
  have HE := Lib.hid hE
  have hx46 := hx45.trans hx6
  have HA := Lib.hid (SF.lift HS2.out (Nat.le_refl _) (HX3.out.trans (HX4.out.trans hx46)))
  have HB := Lib.hid (SF.lift HS3.out (Nat.le_refl _) (HX4.out.trans hx46))
  have HAd := Lib.hid (SF.lift HS4.out (Nat.le_refl _) hx46)
  have HRe := Lib.hid (SF.lift HS5.out (Nat.le_refl _) hx46)
  have HAe := Lib.hid (SF.lift hs6 (Nat.le_refl _) hx6)
  have HRf := Lib.hid (SF.lift hs7 (Nat.le_refl _) hx6)
  have HY := Lib.hid (HX1.out.trans (HX2.out.trans (HX3.out.trans (HX4.out.trans hx46))))
  obtain ⟨q1, p1⟩ := hD.cells
  clear hD hE hx5 hx45 hx46 hx6 hs6 hs7 HS2 HS3 HS4 HS5 HX1 HX2 HX3 HX4 HV
  go_wp2_with fail
  rw [← hw6] at HD HE HA HB HAd HRe HAe HRf HY ⊢
  have hdf := delta_facts L fr un
  have el : addL L un fr = remL L fr un := rfl
  have er : remL L un fr = addL L fr un := rfl
  rw [el] at HE HAe hl6
  rw [er] at HE HRf hl7
  refine (wo_any A2 D2 c2 d2 _ _ _ _ (by omega) (by omega) HA.out HRe.out rfl).mono ?_
  rintro e w7 ⟨A7, c7, rfl, hl8, hs8, hx8⟩
  revert hdf hl8 hs8
  generalize wout (atL L fr) (remL L fr un) = rs
  intro hdf hl8 hs8
  have HS8 := Lib.hid hs8
  have HDF := Lib.hid hdf
  have hn1 : ((rs.length : Int) != ((atL L fr).length : Int) - ((remL L fr un).length : Int)) = false := by rw [bne_eq_false_iff_eq]; have := hdf.1; omega
  have hn2 : (((atL L un).length : Int) != (rs.length : Int) + ((addL L fr un).length : Int)) = false := by rw [bne_eq_false_iff_eq]; have := hdf.2.1; omega
  have hsz : w6.heap.size = w5.heap.size + 1 := by rw [hw6]; simp
  obtain ⟨q2, p2⟩ := (HD.out.ext hx8).cells
  have HD7 := Lib.hid (HD.out.ext hx8)
  have HE7 := Lib.hid (HE.out.ext hx8)
  have HB7 := Lib.hid (SF.lift HB.out (Nat.le_refl _) hx8)
  have HAd7 := Lib.hid (SF.lift HAd.out (Nat.le_refl _) hx8)
  have HRe7 := Lib.hid (SF.lift HRe.out (Nat.le_refl _) hx8)
  have HAe7 := Lib.hid (SF.lift HAe.out (Nat.le_refl _) hx8)
  have HRf7 := Lib.hid (SF.lift HRf.out (Nat.le_refl _) hx8)
  have HY7 := Lib.hid (HY.out.trans hx8)
  clear hdf hs8 hx8 q1 p1 hw6 hsz HD HE HA HB HAd HRe HAe HRf HY
  go_wp2_with fail
  refine (wo_any A3 D1 c3 d1 _ _ _ _ (by omega) (by omega) HB7.out HAd7.out HDF.out.2.2).mono ?_
  rintro e w8 ⟨A8, c8, rfl, _, hs9, hx9⟩
  obtain ⟨q3, p3⟩ := (HD7.out.ext hx9).cells
  have HX9 := Lib.hid hx9
  clear q2 p2 hs9 hx9
  go_wp2_with fail
  refine (wo_any A3 D1 c3 d1 _ _ _ _ (by omega) (by omega) (SF.lift HB7.out (Nat.le_refl _) HX9.out) (SF.lift HAd7.out (Nat.le_refl _) HX9.out) HDF.out.2.2).mono ?_
  rintro e w9 ⟨A9, c9, rfl, hl9, hs10, hx10⟩
  have HS10 := Lib.hid hs10
  have HX10 := Lib.hid hx10
  have HX11 := Lib.hid (HX9.out.trans hx10)
  clear q3 p3 hs10 hx10
  go_wp2_with fail
  refine (wo_any A9 A7 c9 c7 _ _ _ _ (by omega) (by omega) HS10.out (SF.lift HS8.out (Nat.le_refl _) HX11.out) (wout_self rs)).mono ?_
  rintro e w10 ⟨A10, c10, rfl, _, _, hx12⟩
  have HX12 := Lib.hid (HX11.out.trans hx12)
  obtain ⟨q4, p4⟩ := (HD7.out.ext HX12.out).cells
  obtain ⟨q5, p5⟩ := (HE7.out.ext HX12.out).cells
  clear hx12 HS10 HX9 HX10 HX11
  go_wp2_with fail
  refine (sameF_eq _ D1 E2 d1 g2 _ _ (SF.lift HAd7.out (Nat.le_refl _) HX12.out) (SF.lift HRf7.out (Nat.le_refl _) HX12.out) (by omega) (by omega) rfl).mono ?_
  rintro e w11 ⟨rfl, hx13⟩
  have HX13 := Lib.hid (HX12.out.trans hx13)
  obtain ⟨q6, p6⟩ := (HD7.out.ext HX13.out).cells
  obtain ⟨q7, p7⟩ := (HE7.out.ext HX13.out).cells
  clear hx13 q4 p4 q5 p5 HX12
  go_wp2_with fail
  refine (sameF_eq _ D2 E1 d2 g1 _ _ (SF.lift HRe7.out (Nat.le_refl _) HX13.out) (SF.lift HAe7.out (Nat.le_refl _) HX13.out) (by omega) (by omega) rfl).mono ?_
  rintro e w12 ⟨rfl, hx14⟩
  have HX14 := Lib.hid (HY7.out.trans (HX13.out.trans hx14))
  clear hx14 q6 p6 q7 p7 HX13
  go_wp2_with fail
  refine (lives_any _).mono ?_
  rintro e w13 ⟨rfl, hx15⟩
  go_wp2
  go_ret
  exact ⟨rfl, HX14.out.trans hx15⟩
end Go.Proofs.Ythjjdeabfnlbjaa
