/- The walks of the laws FactsKnown and FactsChanges. -/
import Derived.Test.YthjjdeabfnlbjaaLaw
namespace Go.Proofs.Ythjjdeabfnlbjaa
open Go Go.RowKit

set_option maxRecDepth 100000 in
set_option maxHeartbeats 1000000 in
theorem known_walk (A : Option Addr) (n c : Nat) (f : Nat → Int) (op day en : Int) (w : World) (hn : n ≤ maxLen) (hnc : n ≤ c) (hcm : c ≤ maxLen) (h : SI w w.heap.size A n f) :
    Calls Try.prog 5 #[.slice A n c, .int .i64 op, .int .i64 day, .int .i64 en] w fun e w' => e = .returned (.bool true) ∧ Ext w w' := by
  have HS := Lib.hid h; clear h
  go_enter Try.func5, Try.ntmps5
  go_wp2_with fail
  refine (vs_any A n c f w _ hn hnc hcm HS.out (Ext.refl _)).mono ?_
  rintro e w1 ⟨L, A1, c1, top, rfl, hv, hg, _, _, hx1⟩
  have HV := Lib.hid hv
  have hL := hv.n40
  clear hv hg
  go_wp2_with fail
  refine (HV.out.at20 op _ (Ext.refl _)).mono ?_
  rintro e w2 ⟨A2, c2, rfl, hl2, hs2, hx2⟩
  have HS2 := Lib.hid hs2; clear hs2
  go_wp2_with fail
  refine (HV.out.at21 op _ hx2).mono ?_
  rintro e w3 ⟨A3, c3, rfl, _, hs3, hx3⟩
  have HS3 := Lib.hid hs3; clear hs3
  go_wp2_with fail
  refine (sameF_eq _ A2 A3 c2 c3 _ _ (SF.lift HS2.out (Nat.le_refl _) hx3) HS3.out (by omega) (by omega) rfl).mono ?_
  rintro e w4 ⟨rfl, hx4⟩
  have hy4 := hx2.trans (hx3.trans hx4)
  clear HS2 HS3 hx2 hx3 hx4
  go_wp2_with fail
  refine (HV.out.known22 day op _ hy4).mono ?_
  rintro e w5 ⟨A5, c5, rfl, hl5, hs5, hx5⟩
  have HS5 := Lib.hid hs5; clear hs5
  go_wp2_with fail
  refine (HV.out.known23 day op _ (hy4.trans hx5)).mono ?_
  rintro e w6 ⟨A6, c6, rfl, _, hs6, hx6⟩
  have HS6 := Lib.hid hs6; clear hs6
  go_wp2_with fail
  refine (sameF_eq _ A5 A6 c5 c6 _ _ (SF.lift HS5.out (Nat.le_refl _) hx6) HS6.out (by omega) (by omega) rfl).mono ?_
  rintro e w7 ⟨rfl, hx7⟩
  have hy7 := hy4.trans (hx5.trans (hx6.trans hx7))
  clear HS5 HS6 hx5 hx6 hx7 hy4
  go_wp2_with fail
  refine (HV.out.hist24 en _ hy7).mono ?_
  rintro e w8 ⟨A8, c8, rfl, hs8, hx8⟩
  have HS8 := Lib.hid hs8; clear hs8
  go_wp2_with fail
  refine (HV.out.hist25 en _ (hy7.trans hx8)).mono ?_
  rintro e w9 ⟨A9, c9, rfl, hs9, hx9⟩
  have HS9 := Lib.hid hs9; clear hs9
  have hlh : (histL L en).length ≤ 40 := Nat.le_trans (List.length_filter_le _ _) hL
  go_wp2_with fail
  refine (sameV_eq _ A8 A9 c8 c9 _ _ (SV.lift HS8.out (Nat.le_refl _) hx9) HS9.out (by omega) (by omega) rfl).mono ?_
  rintro e w10 ⟨rfl, hx10⟩
  have hy10 := hy7.trans (hx8.trans (hx9.trans hx10))
  clear HS8 HS9 hx8 hx9 hx10 hy7
  go_wp2_with fail
  refine (lives_any _).mono ?_
  rintro e w11 ⟨rfl, hx11⟩
  go_wp2
  go_ret
  exact ⟨rfl, hx1.trans (hy10.trans hx11)⟩

set_option maxRecDepth 100000 in
set_option maxHeartbeats 1000000 in
theorem changes_walk (A : Option Addr) (n c : Nat) (f : Nat → Int) (fr un : Int) (w : World) (hn : n ≤ maxLen) (hnc : n ≤ c) (hcm : c ≤ maxLen) (h : SI w w.heap.size A n f) :
    Calls Try.prog 6 #[.slice A n c, .int .i64 fr, .int .i64 un] w fun e w' => e = .returned (.bool true) ∧ Ext w w' := by
  have HS := Lib.hid h; clear h
  go_enter Try.func6, Try.ntmps6
  go_wp2_with fail
  refine (vs_any A n c f w _ hn hnc hcm HS.out (Ext.refl _)).mono ?_
  rintro e w1 ⟨L, A1, c1, top, rfl, hv, hg, _, _, hx1⟩
  have HV := Lib.hid hv
  clear hv hg
  go_wp2_with fail
  refine (HV.out.chg26 fr un _ (Ext.refl _)).mono ?_
  rintro e w2 ⟨A2, A3, c2, c3, rfl, hl2, hl3, hs2, hs3, hx2⟩
  have HS2 := Lib.hid hs2
  have HS3 := Lib.hid hs3
  clear hs2 hs3
  go_wp2_with fail
  refine (HV.out.chg27 fr un _ (hx2.alloc _)).mono ?_
  rintro e w3 ⟨A4, A5, c4, c5, rfl, _, _, hs4, hs5, hx3⟩
  have hb3 := (Bk.new w2 44 #[.slice A2 (addL L fr un).length c2, .slice A3 (remL L fr un).length c3]).ext hx3
  have hx23 := ((Ext.refl w2).alloc (.cells #[.slice A2 (addL L fr un).length c2, .slice A3 (remL L fr un).length c3] 44)).trans hx3
  have HS2' := Lib.hid (SF.lift HS2.out (Nat.le_refl _) (hx23.alloc (.cells #[.slice A4 (addL L fr un).length c4, .slice A5 (remL L fr un).length c5] 44)))
  have HS3' := Lib.hid (SF.lift HS3.out (Nat.le_refl _) (hx23.alloc (.cells #[.slice A4 (addL L fr un).length c4, .slice A5 (remL L fr un).length c5] 44)))
  have HS4' := Lib.hid (SF.lift hs4 (Nat.le_refl _) ((Ext.refl w3).alloc (.cells #[.slice A4 (addL L fr un).length c4, .slice A5 (remL L fr un).length c5] 44)))
  have HS5' := Lib.hid (SF.lift hs5 (Nat.le_refl _) ((Ext.refl w3).alloc (.cells #[.slice A4 (addL L fr un).length c4, .slice A5 (remL L fr un).length c5] 44)))
  have HB3 := Lib.hid (hb3.alloc (.cells #[.slice A4 (addL L fr un).length c4, .slice A5 (remL L fr un).length c5] 44))
  have HBn := Lib.hid (Bk.new w3 44 #[.slice A4 (addL L fr un).length c4, .slice A5 (remL L fr un).length c5])
  have hlt : w2.heap.size < w3.heap.size := hb3.lt
  obtain ⟨q3, p3⟩ := hb3.cells
  have HY := Lib.hid (hx2.trans (hx23.alloc (.cells #[.slice A4 (addL L fr un).length c4, .slice A5 (remL L fr un).length c5] 44)))
  clear HS2 HS3 hs4 hs5 hb3 hx2 hx3 hx23
  go_wp2_with fail
  refine (sameF_eq _ A2 A4 c2 c4 _ _ HS2'.out HS4'.out (by omega) (by omega) rfl).mono ?_
  rintro e w4 ⟨rfl, hx4⟩
  obtain ⟨q4, p4⟩ := (HB3.out.ext hx4).cells
  obtain ⟨q5, p5⟩ := (HBn.out.ext hx4).cells
  clear q3 p3
  go_wp2_with fail
  refine (sameF_eq _ A3 A5 c3 c5 _ _ (SF.lift HS3'.out (Nat.le_refl _) hx4) (SF.lift HS5'.out (Nat.le_refl _) hx4) (by omega) (by omega) rfl).mono ?_
  rintro e w5 ⟨rfl, hx5⟩
  have hy5 := hx1.trans (HY.out.trans (hx4.trans hx5))
  clear q4 p4 q5 p5 hx4 hx5 HS2' HS3' HS4' HS5' HB3 HBn HY
  go_wp2_with fail
  refine (lives_any _).mono ?_
  rintro e w6 ⟨rfl, hx6⟩
  go_wp2
  go_ret
  exact ⟨rfl, hy5.trans hx6⟩
end Go.Proofs.Ythjjdeabfnlbjaa
