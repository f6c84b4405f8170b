/- The walk of the law FactsRecord. -/
import Derived.Test.YthjjdeabfnlbjaaLawT
namespace Go.Proofs.Ythjjdeabfnlbjaa
open Go Go.RowKit Go.WideShapes

def endOf (L : List Vr) : Int := if L.length = 0 then 0 else (vat L (L.length - 1)).op
theorem end_facts {L : List Vr} {top : Int} (h : GoodV L top) (ht : 0 ≤ top) : 0 ≤ endOf L ∧ endOf L ≤ top ∧ ∀ v ∈ L, v.op ≤ endOf L := by
  unfold endOf
  by_cases h0 : L.length = 0
  · rw [if_pos h0]
    refine ⟨by omega, ht, fun v hv => ?_⟩
    rw [List.eq_nil_of_length_eq_zero h0] at hv
    cases hv
  · rw [if_neg h0]
    have h1 := h.ops (L.length - 1) (by omega)
    refine ⟨h1.1, h1.2, fun v hv => ?_⟩
    obtain ⟨j, hj, rfl⟩ := mem_vat hv
    exact check_ops h.ok j _ (by omega) (by omega)
def lateV (v : Vr) (e0 : Int) : Vr := ⟨v.op + e0 + 1, v.st, v.fc⟩
/-- What the loop of FactsRecord keeps: X has been appended. -/
structure RecSt (L M : List Vr) (e0 : Int) (i : Nat) (X : List Vr) : Prop where
  few : Few (L ++ X)
  len : X.length ≤ i
  late : ∀ v ∈ X, e0 < v.op
  ord : ∀ v ∈ L ++ X, ∀ j, i ≤ j → j < M.length → v.op ≤ (vat M j).op + e0 + 1
theorem RecSt.start {L M : List Vr} {e0 top : Int} (hf : Few L) (hl : ∀ v ∈ L, v.op ≤ e0) (hm : GoodV M top) : RecSt L M e0 0 [] :=
  ⟨by rw [List.append_nil]; exact hf, Nat.zero_le _, fun v hv => (by cases hv), fun v hv j _ hj => by
    rw [List.append_nil] at hv
    have := hl v hv
    have := (hm.ops j hj).1
    omega⟩
theorem RecSt.next {L M : List Vr} {e0 : Int} {i : Nat} {X : List Vr} (h : RecSt L M e0 i X) : RecSt L M e0 (i + 1) X :=
  ⟨h.few, Nat.le_succ_of_le h.len, h.late, fun v hv j hj hjm => h.ord v hv j (by omega) hjm⟩
theorem RecSt.wrong {L M : List Vr} {e0 top : Int} {i : Nat} {X : List Vr} (h : RecSt L M e0 i X) (hm : GoodV M top) (hi : i < M.length) (he : 0 ≤ e0) :
    wrongOf (L ++ X) (lateV (vat M i) e0) = 0 ∨ (wrongOf (L ++ X) (lateV (vat M i) e0) = 3 ∧ (vat M i).st = true) := by
  have h1 := hm.fact i hi
  have h2 := (hm.ops i hi).1
  have hE := wrongOf_end (l := L ++ X) (v := lateV (vat M i) e0) (by show ¬ (vat M i).op + e0 + 1 < 0; omega) (by simp [lateV, h1.1]) (okF_in h1.1) (fun hh => by
    have := h.ord _ (vat_mem (l := L ++ X) (k := (L ++ X).length - 1) (by omega)) i (Nat.le_refl _) hi
    have h3 := hh.2
    change (vat M i).op + e0 + 1 < _ at h3
    omega)
  by_cases hc : (lateV (vat M i) e0).st = true ∧ (match lastOf (L ++ X) (lateV (vat M i) e0).fc.en with | some u => u.st | none => true) = true
  · exact .inr ⟨hE.trans (if_pos hc), hc.1⟩
  · exact .inl (hE.trans (if_neg hc))
theorem RecSt.app {L M : List Vr} {e0 top : Int} {i : Nat} {X : List Vr} (h : RecSt L M e0 i X) (hm : GoodV M top) (hi : i < M.length) (_he : 0 ≤ e0) (hw : wrongOf (L ++ X) (lateV (vat M i) e0) = 0) : RecSt L M e0 (i + 1) (X ++ [lateV (vat M i) e0]) := by
  have h1 := hm.fact i hi
  have h2 := (hm.ops i hi).1
  refine ⟨?_, by simp; exact h.len, fun v hv => ?_, fun v hv j hj hjm => ?_⟩
  · rw [← List.append_assoc]
    exact h.few.snoc hw h1.2 (by have := okF_size h1.1; show (vat M i).fc.kd.size ≤ maxLen; simp only [maxLen]; omega)
  · rcases List.mem_append.1 hv with a | a
    · exact h.late v a
    · simp at a; subst a; show e0 < (vat M i).op + e0 + 1; omega
  · rw [← List.append_assoc] at hv
    rcases List.mem_append.1 hv with a | a
    · exact h.ord v a j (by omega) hjm
    · simp at a; subst a
      have := check_ops hm.ok i j (by omega) hjm
      show (vat M i).op + e0 + 1 ≤ _
      omega
theorem isAt_laters {l X : List Vr} {op : Int} {m : List Fc} (h : IsAt l op m) (hX : ∀ v ∈ X, op < v.op) : IsAt (l ++ X) op m := by
  have e : upto (l ++ X) op = upto l op := by
    have e0 : X.filter (fun v => decide (v.op ≤ op)) = [] := List.filter_eq_nil_iff.2 fun v hv => by
      have := hX v hv
      simp; omega
    unfold upto
    rw [List.filter_append, e0, List.append_nil]
  exact ⟨h.sorted, fun f => by rw [e]; exact h.mem f⟩
theorem RecSt.at_ {L M : List Vr} {e0 : Int} {i : Nat} {X : List Vr} (h : RecSt L M e0 i X) {op : Int} (ho : op ≤ e0) : ∀ m, IsAt (L ++ X) op m → m = atL L op := fun m hm =>
  hm.unique (isAt_laters (atL_at L op) fun v hv => by have := h.late v hv; omega)
def RecRel (L M : List Vr) (e0 : Int) (w : World) (s9 s11 : Value) (wx : World) : Prop :=
  ∃ (i : Nat) (X : List Vr) (A : Option Addr) (c : Nat), i ≤ M.length ∧ s9 = .slice A (L ++ X).length c ∧ s11 = .int .i64 i ∧ RecSt L M e0 i X ∧ SV wx wx.heap.size A (L ++ X).length (L ++ X) ∧ Ext w wx

set_option maxRecDepth 100000 in
set_option maxHeartbeats 2000000 in
theorem record_walk (A : Option Addr) (n c : Nat) (f : Nat → Int) (A' : Option Addr) (n' c' : Nat) (f' : Nat → Int) (op : Int) (w : World) (hn : n ≤ maxLen) (hnc : n ≤ c) (hcm : c ≤ maxLen) (h : SI w w.heap.size A n f)
    (hn' : n' ≤ maxLen) (hnc' : n' ≤ c') (hcm' : c' ≤ maxLen) (h' : SI w w.heap.size A' n' f') :
    Calls Try.prog 8 #[.slice A n c, .slice A' n' c', .int .i64 op] w fun e w' => e = .returned (.bool true) ∧ Ext w w' := by
  have HS := Lib.hid h; clear h
  have HS' := Lib.hid h'; clear h'
  go_enter Try.func8, Try.ntmps8
  go_wp2_with fail
  refine (vs_any A n c f w _ hn hnc hcm HS.out (Ext.refl _)).mono ?_
  rintro e w1 ⟨L, A1, c1, top, rfl, hv, hg, ht0, ht2, hx1⟩
  have HV := Lib.hid hv
  have HX1 := Lib.hid hx1
  have hL := hv.n40
  obtain ⟨hE0, hE1, hE2⟩ := end_facts hg ht0
  have HE2 := Lib.hid hE2
  clear hv hx1 hg hE2
  have hE3 : endOf L ≤ 200 := by omega
  go_upto_if 20 with (fail)
  go_cut [8] (fun s8 wx => s8 = .int .i64 (endOf L) ∧ Ext w1 wx)
  case first =>
    have HEO := Lib.hid (show ∀ v, v = endOf L → v = if L.length = 0 then 0 else (vat L (L.length - 1)).op from fun v h => h)
    by_cases hL0 : L.length = 0
    · have hz : decide ((0 : Int) < (L.length : Int)) = false := by rw [decide_eq_false_iff_not]; omega
      have hz2 : ¬ (0 : Int) < (L.length : Int) := by omega
      have he : endOf L = 0 := by unfold endOf; rw [if_pos hL0]
      have HE := Lib.hid he
      have HZ := Lib.hid hL0
      clear hL0 he hE0 hE1 hE3
      go_wp2_with fail
      go_meet
      case rel => exact ⟨by rw [HE.out], Ext.refl _⟩
    · have hz : decide ((0 : Int) < (L.length : Int)) = true := by rw [decide_eq_true_eq]; omega
      have hz2 : (0 : Int) < (L.length : Int) := by omega
      have hp1 : (0 : Int) ≤ (L.length : Int) - 1 := by omega
      have hp2 : (L.length : Int) - 1 < L.length := by omega
      have hp3 : ((L.length : Int) - 1).toNat = L.length - 1 := by omega
      obtain ⟨b, off, rfl, hb, v0, v1, v2, v3, v4, v5, v6, v7⟩ := SV.at_ HV.out.sv (k := L.length - 1) (by omega)
      have he : endOf L = (vat L (L.length - 1)).op := by unfold endOf; rw [if_neg hL0]
      have HE := Lib.hid he
      clear he hE0 hE1 hE3 hL0
      go_wp2_with fail
      go_meet
      case rel => exact ⟨by rw [HE.out], Ext.refl _⟩
  case rest =>
    obtain ⟨rfl, hxc⟩ := hcut
    revert hE0 hE1 hE3 HE2
    generalize hee : endOf L = e0
    intro hE0 hE1 HE2 hE3
    clear hee
    have HXC := Lib.hid hxc
    clear hxc
    go_wp2_with fail
    refine (vs_any A' n' c' f' w _ hn' hnc' hcm' HS'.out (HX1.out.trans HXC.out)).mono ?_
    rintro e w2 ⟨M, A2, c2, top2, rfl, hv2, hg2, hu0, hu2, hx2⟩
    have HV2 := Lib.hid hv2
    have HG2 := Lib.hid hg2
    have hM := hv2.n40
    have HX12 := Lib.hid (HXC.out.trans hx2)
    have HY := Lib.hid (HX1.out.trans (HXC.out.trans hx2))
    clear hv2 hg2 hx2 HXC HX1 HS HS'
    go_wp2
    go_loopw [9, 11] (fun s9 s11 wx => RecRel L M e0 w2 s9 s11 wx) (fun _ s11 _ => refM M.length s11)
    case atStart => exact ⟨0, [], A1, c1, Nat.zero_le _, by simp, rfl, RecSt.start HV.out.few HE2.out HG2.out, by rw [List.append_nil]; exact HV.out.at_ HX12.out, Ext.refl _⟩
    case round =>
      obtain ⟨i, X, A3, c3, hi, rfl, rfl, hst, hsv, hx⟩ := hrel
      have HST := Lib.hid hst
      have HSV := Lib.hid hsv
      have hlen : (L ++ X).length ≤ 80 := by have := hst.len; rw [List.length_append]; omega
      clear hst hsv
      by_cases hlt : i < M.length
      · have hlt' : (i : Int) < M.length := by omega
        obtain ⟨b, off, rfl, hb, d0, d1, d2, d3, d4, d5, d6, d7⟩ := SV.at_ (HV2.out.at_ hx) (k := i) hlt
        have hwr := HST.out.wrong HG2.out hlt hE0
        have hop := HG2.out.ops i hlt
        have hkd : (lateV (vat M i) e0).fc.kd.size ≤ maxLen := HV2.out.kd i hlt
        have HKD := Lib.hid hkd
        have hap := fun hw => HST.out.app HG2.out hlt hE0 hw
        have HAP := Lib.hid hap
        have HWR := Lib.hid hwr
        clear hwr hkd hap
        have HFEW := Lib.hid HST.out.few
        have hS1 : ∀ v, L ++ (X ++ [v]) = (L ++ X) ++ [v] := fun v => by rw [List.append_assoc]
        have HS1 := Lib.hid hS1
        have HX0 := Lib.hid (show ∀ v (W : World) (A5 : Option Addr) (c5 : Nat), RecSt L M e0 (i + 1) (X ++ [v]) → SV W W.heap.size A5 ((L ++ X).length + 1) ((L ++ X) ++ [v]) → Ext w2 W → RecRel L M e0 w2 (.slice A5 ((L ++ X).length + 1) c5) (.int .i64 ((i : Int) + 1)) W from fun v W A5 c5 h1 h2 h3 => ⟨i + 1, X ++ [v], A5, c5, by omega, congrArg (fun z => Value.slice A5 z c5) (by simp; omega), rfl, h1, by rw [hS1, show (L ++ X ++ [v]).length = (L ++ X).length + 1 from by rw [List.length_append]; rfl]; exact h2, h3⟩)
        have HX9 := Lib.hid (show ∀ (W : World), SV W W.heap.size A3 (L ++ X).length (L ++ X) → Ext w2 W → RecRel L M e0 w2 (.slice A3 (L ++ X).length c3) (.int .i64 ((i : Int) + 1)) W from fun W h2 h3 => ⟨i + 1, X, A3, c3, by omega, rfl, rfl, HST.out.next, h2, h3⟩)
        clear hS1
        generalize L ++ X = S at *
        have ho1 : 0 ≤ (vat M i).op := hop.1
        have ho2 : (vat M i).op ≤ 200 := by omega
        clear hop
        go_wp2_with fail
        rcases HWR.out with hw | ⟨hw, hst'⟩
        · refine (app_ok A3 _ c3 S (lateV (vat M i) e0) _ (by omega) (SV.lift HSV.out (Nat.le_refl _) ((Ext.refl wr).alloc _)) HFEW.out HKD.out hw).mono ?_
          rintro e w3 ⟨⟨A4, c4, rfl, hs4⟩, hx4⟩
          have HREL := Lib.hid (HX0.out _ _ A4 c4 (HAP.out hw) hs4 ((hx.alloc _).trans hx4))
          obtain ⟨q1, p1⟩ := ((Bk.new wr 32 #[.int .i64 ((vat M i).op + e0 + 1), .bool (vat M i).st, .int .i64 (vat M i).fc.en, .string (vat M i).fc.kd, .int .i64 (vat M i).fc.day, .int .i64 (vat M i).fc.byy, .int .i64 (vat M i).fc.too, .int .i64 (vat M i).fc.am]).ext hx4).cells
          clear hs4 hx4 hw
          go_wp2
          first | exact ⟨HREL.out, refM_lt hlt⟩ | (refine ⟨?_, refM_lt hlt⟩; (repeat apply Exists.intro); refine ⟨?_, rfl⟩; exact HREL.out)
        · refine (app_no A3 _ c3 S (lateV (vat M i) e0) _ (by omega) (SV.lift HSV.out (Nat.le_refl _) ((Ext.refl wr).alloc _)) HFEW.out HKD.out 3 hw (by decide)).mono ?_
          rintro e w3 ⟨rfl, hx4⟩
          have hx5 := ((Ext.refl wr).alloc (.cells #[.int .i64 ((vat M i).op + e0 + 1), .bool (vat M i).st, .int .i64 (vat M i).fc.en, .string (vat M i).fc.kd, .int .i64 (vat M i).fc.day, .int .i64 (vat M i).fc.byy, .int .i64 (vat M i).fc.too, .int .i64 (vat M i).fc.am] 32)).trans hx4
          have HREL := Lib.hid (HX9.out _ (SV.lift HSV.out (Nat.le_refl _) hx5) (hx.trans hx5))
          obtain ⟨q1, p1⟩ := ((Bk.new wr 32 #[.int .i64 ((vat M i).op + e0 + 1), .bool (vat M i).st, .int .i64 (vat M i).fc.en, .string (vat M i).fc.kd, .int .i64 (vat M i).fc.day, .int .i64 (vat M i).fc.byy, .int .i64 (vat M i).fc.too, .int .i64 (vat M i).fc.am]).ext hx4).cells
          rw [hst'] at q1
          clear hx4 hw hst' hx5
          go_wp2
          first | exact ⟨HREL.out, refM_lt hlt⟩ | (refine ⟨?_, refM_lt hlt⟩; (repeat apply Exists.intro); refine ⟨?_, rfl⟩; exact HREL.out)
      · obtain rfl : i = M.length := by omega
        have hen2 := HST.out.few.en
        have hats := fun (p : Int) (hp : p ≤ e0) => HST.out.at_ hp
        have HEN := Lib.hid hen2
        have HATS := Lib.hid hats
        clear hen2 hats HST
        generalize L ++ X = S at *
        by_cases hmin : op ≤ e0
        · go_wp2_with fail
          refine (at_any_eq A3 _ c3 S op _ (atL L op) (by omega) HSV.out HEN.out (HATS.out op hmin)).mono ?_
          rintro e w3 ⟨A5, c5, rfl, hl5, hs5, hx5⟩
          have HS5 := Lib.hid hs5
          have HX5 := Lib.hid (hx.trans hx5)
          have HR5 := Lib.hid hx5
          clear hs5 hx5
          go_wp2_with fail
          refine (HV.out.at20 op _ (HX12.out.trans HX5.out)).mono ?_
          rintro e w4 ⟨A6, c6, rfl, hl6, hs6, hx6⟩
          have HS6 := Lib.hid hs6
          have HX6 := Lib.hid (HX5.out.trans hx6)
          have HR0 := Lib.hid (HR5.out.trans hx6)
          have HS5' := Lib.hid (SF.lift HS5.out (Nat.le_refl _) hx6)
          clear hs6 hx6 HS5
          go_wp2_with fail
          refine (sameF_eq _ A5 A6 c5 c6 _ _ HS5'.out HS6.out (by omega) (by omega) rfl).mono ?_
          rintro e w5 ⟨rfl, hx7⟩
          have HX7 := Lib.hid (HX6.out.trans hx7)
          have HSV7 := Lib.hid (SV.lift HSV.out (Nat.le_refl _) (HR0.out.trans hx7))
          clear hx7
          go_wp2_with fail
          refine (at_any_eq A3 _ c3 S e0 _ (atL L e0) (by omega) HSV7.out HEN.out (HATS.out e0 (Int.le_refl _))).mono ?_
          rintro e w6 ⟨A8, c8, rfl, hl8, hs8, hx8⟩
          have HS8 := Lib.hid hs8
          have HX8 := Lib.hid (HX7.out.trans hx8)
          clear hs8 hx8
          go_wp2_with fail
          refine (HV.out.at20 e0 _ (HX12.out.trans HX8.out)).mono ?_
          rintro e w7 ⟨A9, c9, rfl, hl9, hs9, hx9⟩
          have HS9 := Lib.hid hs9
          have HX9 := Lib.hid (HX8.out.trans hx9)
          have HS8' := Lib.hid (SF.lift HS8.out (Nat.le_refl _) hx9)
          clear hs9 hx9 HS8
          go_wp2_with fail
          refine (sameF_eq _ A8 A9 c8 c9 _ _ HS8'.out HS9.out (by omega) (by omega) rfl).mono ?_
          rintro e w8 ⟨rfl, hx10⟩
          have HX10 := Lib.hid (HY.out.trans (HX9.out.trans hx10))
          clear hx10
          go_wp2_with fail
          refine (lives_any _).mono ?_
          rintro e w9 ⟨rfl, hx11⟩
          go_wp2
          go_ret
          exact ⟨rfl, HX10.out.trans hx11⟩
        · go_wp2_with fail
          refine (at_any_eq A3 _ c3 S e0 _ (atL L e0) (by omega) HSV.out HEN.out (HATS.out e0 (Int.le_refl _))).mono ?_
          rintro e w3 ⟨A5, c5, rfl, hl5, hs5, hx5⟩
          have HS5 := Lib.hid hs5
          have HX5 := Lib.hid (hx.trans hx5)
          have HR5 := Lib.hid hx5
          clear hs5 hx5
          go_wp2_with fail
          refine (HV.out.at20 e0 _ (HX12.out.trans HX5.out)).mono ?_
          rintro e w4 ⟨A6, c6, rfl, hl6, hs6, hx6⟩
          have HS6 := Lib.hid hs6
          have HX6 := Lib.hid (HX5.out.trans hx6)
          have HR0 := Lib.hid (HR5.out.trans hx6)
          have HS5' := Lib.hid (SF.lift HS5.out (Nat.le_refl _) hx6)
          clear hs6 hx6 HS5
          go_wp2_with fail
          refine (sameF_eq _ A5 A6 c5 c6 _ _ HS5'.out HS6.out (by omega) (by omega) rfl).mono ?_
          rintro e w5 ⟨rfl, hx7⟩
          have HX7 := Lib.hid (HX6.out.trans hx7)
          have HSV7 := Lib.hid (SV.lift HSV.out (Nat.le_refl _) (HR0.out.trans hx7))
          clear hx7
          go_wp2_with fail
          refine (at_any_eq A3 _ c3 S e0 _ (atL L e0) (by omega) HSV7.out HEN.out (HATS.out e0 (Int.le_refl _))).mono ?_
          rintro e w6 ⟨A8, c8, rfl, hl8, hs8, hx8⟩
          have HS8 := Lib.hid hs8
          have HX8 := Lib.hid (HX7.out.trans hx8)
          clear hs8 hx8
          go_wp2_with fail
          refine (HV.out.at20 e0 _ (HX12.out.trans HX8.out)).mono ?_
          rintro e w7 ⟨A9, c9, rfl, hl9, hs9, hx9⟩
          have HS9 := Lib.hid hs9
          have HX9 := Lib.hid (HX8.out.trans hx9)
          have HS8' := Lib.hid (SF.lift HS8.out (Nat.le_refl _) hx9)
          clear hs9 hx9 HS8
          go_wp2_with fail
          refine (sameF_eq _ A8 A9 c8 c9 _ _ HS8'.out HS9.out (by omega) (by omega) rfl).mono ?_
          rintro e w8 ⟨rfl, hx10⟩
          have HX10 := Lib.hid (HY.out.trans (HX9.out.trans hx10))
          clear hx10
          go_wp2_with fail
          refine (lives_any _).mono ?_
          rintro e w9 ⟨rfl, hx11⟩
          go_wp2
          go_ret
          exact ⟨rfl, HX10.out.trans hx11⟩
end Go.Proofs.Ythjjdeabfnlbjaa
