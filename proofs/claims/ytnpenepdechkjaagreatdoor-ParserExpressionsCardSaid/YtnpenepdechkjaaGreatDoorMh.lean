/- The reference's SameRules. -/
import Derived.Test.YtnpenepdechkjaaGreatDoorMf
import Derived.Test.YtnpenepdechkjaaGreatDoorMg
namespace Go.Proofs.YtnpenepdechkjaaGreatDoor
open Go Go.RowKit

def eqR (x y : Rl) : Bool := decide (x.name = y.name) && (decide (x.from_ = y.from_) && (decide (x.on_ = y.on_) && (decide (x.unless_ = y.unless_) && (decide (x.else_ = y.else_) && (eqT x.if_ y.if_ && eqT x.due y.due)))))
theorem eqR_iff (x y : Rl) : eqR x y = true ↔ x = y := by
  unfold eqR
  cases x; cases y
  simp only [Bool.and_eq_true, decide_eq_true_eq, eqT_iff, Rl.mk.injEq]
  constructor
  · rintro ⟨rfl, rfl, rfl, rfl, rfl, rfl, rfl⟩; exact ⟨rfl, rfl, rfl, rfl, rfl, rfl, rfl⟩
  · rintro ⟨rfl, rfl, rfl, rfl, rfl, rfl, rfl⟩; exact ⟨rfl, rfl, rfl, rfl, rfl, rfl, rfl⟩
def eqRs : List Rl → List Rl → Bool
  | [], [] => true
  | a :: r, b :: r2 => eqR a b && eqRs r r2
  | _, _ => false
theorem eqRs_iff : ∀ (a b : List Rl), eqRs a b = true ↔ a = b
  | [], [] => by simp [eqRs]
  | [], _ :: _ => by simp [eqRs]
  | _ :: _, [] => by simp [eqRs]
  | a :: r, b :: r2 => by
    have h1 := eqR_iff a b
    have h2 := eqRs_iff r r2
    simp only [eqRs, Bool.and_eq_true, h1, h2, List.cons.injEq]
theorem eqRs_len {a b : List Rl} (h : a.length ≠ b.length) : eqRs a b = false := by
  cases hh : eqRs a b with
  | false => rfl
  | true => exact absurd (congrArg List.length ((eqRs_iff a b).1 hh)) h
theorem eqRs_at {a b : List Rl} {k : Nat} {x y : Rl} (h1 : a[k]? = some x) (h2 : b[k]? = some y) (h : eqR x y = false) : eqRs a b = false := by
  cases hh : eqRs a b with
  | false => rfl
  | true =>
    have e := (eqRs_iff a b).1 hh
    subst e
    rw [h1] at h2
    injection h2 with h2
    rw [(eqR_iff x y).2 h2] at h; cases h
theorem eqRs_all {a b : List Rl} (hl : a.length = b.length) (h : a.take a.length = b.take a.length) : eqRs a b = true := by
  rw [eqRs_iff]
  rw [List.take_length, hl, List.take_length] at h
  exact h
def SrRel (W : World) (a b : List Rl) (s5 : Value) (X : World) : Prop := ∃ k : Nat, k ≤ a.length ∧ s5 = .int .i64 k ∧ a.take k = b.take k ∧ Ext W X
set_option maxHeartbeats 2000000 in
set_option maxRecDepth 100000 in
theorem sameR_any (A B : Option Addr) (c c' : Nat) (a b : List Rl) (P Q : Nat → Prop) (W : World) (hla : a.length ≤ 1000000) (_hlb : b.length ≤ 1000000) (hta : ∀ r ∈ a, tsz r.if_ ≤ 1000000 ∧ tsz r.due ≤ 1000000) (htb : ∀ r ∈ b, tsz r.if_ ≤ 1000000 ∧ tsz r.due ≤ 1000000)
    (ha : RW W P A a.length a) (hb : RW W Q B b.length b) : Calls Tryz.prog 16 #[.slice A a.length c, .slice B b.length c'] W (BQ2 (eqRs a b) W) := by
  have HA := Lib.hid ha
  have HB := Lib.hid hb
  have HTA := Lib.hid hta
  have HTB := Lib.hid htb
  clear ha hb hta htb
  by_cases hlen : a.length = b.length
  case neg =>
    have t0 : ((a.length : Int) != (b.length : Int)) = true := by rw [bne_iff_ne]; omega
    have HV := Lib.hid (eqRs_len hlen)
    clear hlen
    go_enter Tryz.func16, Tryz.ntmps16
    go_wp2
    go_ret
    exact ⟨ret_bool HV.out.symm, Ext.refl _⟩
  have t0 : ((a.length : Int) != (b.length : Int)) = false := by simp [hlen]
  have HL := Lib.hid hlen
  clear hlen
  go_enter Tryz.func16, Tryz.ntmps16
  go_upto_region 3 with (fail)
  clear t0
  go_wp2_with fail
  go_loopw [5] (fun s5 X => SrRel W a b s5 X) (fun s5 _ => toM a.length s5)
  case atStart => exact ⟨0, Nat.zero_le _, rfl, rfl, Ext.refl _⟩
  case round =>
    obtain ⟨k, hk, rfl, htk, hx⟩ := hrel
    have HTK := Lib.hid htk
    have HX := Lib.hid hx
    clear htk hx
    by_cases hlt : k < a.length
    case neg =>
      obtain rfl : k = a.length := by omega
      have hni : ¬ ((a.length : Int) < (a.length : Int)) := by omega
      go_wp2
      go_ret
      exact ⟨ret_bool (eqRs_all HL.out HTK.out).symm, HX.out⟩
    have hlt2 : k < b.length := by rw [← HL.out]; exact hlt
    have hI1 : (k : Int) < (a.length : Int) := by omega
    have hI2 : (k : Int) < (b.length : Int) := by omega
    obtain ⟨g1, o1, d1, x, hA1, hg1, hx1, hm1, hr1, p0, p1, p2, p3, p4, p5, p6, p7, p8, p9, p10, p11, p12⟩ := (HA.out.ext HX.out).at_ hlt
    obtain ⟨g2, o2, d2, y, hA2, hg2, hx2, hm2, hr2, q0, q1, q2, q3, q4, q5, q6, q7, q8, q9, q10, q11, q12⟩ := (HB.out.ext HX.out).at_ hlt2
    subst hA1 hA2
    have HX1 := Lib.hid hx1
    have HX2 := Lib.hid hx2
    have HM1 := Lib.hid (HTA.out x hm1)
    have HM2 := Lib.hid (HTB.out y hm2)
    have HR1 := Lib.hid hr1
    have HR2 := Lib.hid hr2
    clear hx1 hx2 hm1 hm2 hr1 hr2
    obtain ⟨xn, xf, xo, xi, xd, xu, xe⟩ := d1
    obtain ⟨yn, yf, yo, yi, yd, yu, ye⟩ := d2
    simp only at p0 p1 p2 p3 p4 p5 p6 p7 p8 p9 p10 p11 p12 q0 q1 q2 q3 q4 q5 q6 q7 q8 q9 q10 q11 q12
    have hg1' := block_lt_of_cell p0
    have hg2' := block_lt_of_cell q0
    have hxa : Ext wr (wr.alloc (.cells #[.string xn, .int .i64 xf, .string xo, .int .i64 xi.k, .int .i64 xi.n, .string xi.s, .slice xi.A xi.m xi.c, .int .i64 xd.k, .int .i64 xd.n, .string xd.s, .slice xd.A xd.m xd.c, .string xu, .string xe] 50)) := (Ext.refl _).alloc _
    have hna : RX (wr.alloc (.cells #[.string xn, .int .i64 xf, .string xo, .int .i64 xi.k, .int .i64 xi.n, .string xi.s, .slice xi.A xi.m xi.c, .int .i64 xd.k, .int .i64 xd.n, .string xd.s, .slice xd.A xd.m xd.c, .string xu, .string xe] 50)) wr.heap.size ⟨xn, xf, xo, xi, xd, xu, xe⟩ := heap_alloc_new _ _
    have hsz : (wr.alloc (.cells #[.string xn, .int .i64 xf, .string xo, .int .i64 xi.k, .int .i64 xi.n, .string xi.s, .slice xi.A xi.m xi.c, .int .i64 xd.k, .int .i64 xd.n, .string xd.s, .slice xd.A xd.m xd.c, .string xu, .string xe] 50)).heap.size = wr.heap.size + 1 := by simp
    go_upto_region 7 with (fail)
    replace q0 := cells_ext q0 hxa
    replace q1 := cells_ext q1 hxa
    replace q2 := cells_ext q2 hxa
    replace q3 := cells_ext q3 hxa
    replace q4 := cells_ext q4 hxa
    replace q5 := cells_ext q5 hxa
    replace q6 := cells_ext q6 hxa
    replace q7 := cells_ext q7 hxa
    replace q8 := cells_ext q8 hxa
    replace q9 := cells_ext q9 hxa
    replace q10 := cells_ext q10 hxa
    replace q11 := cells_ext q11 hxa
    replace q12 := cells_ext q12 hxa
    clear p0 p1 p2 p3 p4 p5 p6 p7 p8 p9 p10 p11 p12 hg1' hg2'
    generalize wr.alloc (.cells #[.string xn, .int .i64 xf, .string xo, .int .i64 xi.k, .int .i64 xi.n, .string xi.s, .slice xi.A xi.m xi.c, .int .i64 xd.k, .int .i64 xd.n, .string xd.s, .slice xd.A xd.m xd.c, .string xu, .string xe] 50) = w1 at *
    have HXA := Lib.hid hxa
    have HNA := Lib.hid hna
    have HSZ := Lib.hid hsz
    clear hxa hna hsz
    have hxb : Ext w1 (w1.alloc (.cells #[.string yn, .int .i64 yf, .string yo, .int .i64 yi.k, .int .i64 yi.n, .string yi.s, .slice yi.A yi.m yi.c, .int .i64 yd.k, .int .i64 yd.n, .string yd.s, .slice yd.A yd.m yd.c, .string yu, .string ye] 50)) := (Ext.refl _).alloc _
    have hnb : RX (w1.alloc (.cells #[.string yn, .int .i64 yf, .string yo, .int .i64 yi.k, .int .i64 yi.n, .string yi.s, .slice yi.A yi.m yi.c, .int .i64 yd.k, .int .i64 yd.n, .string yd.s, .slice yd.A yd.m yd.c, .string yu, .string ye] 50)) w1.heap.size ⟨yn, yf, yo, yi, yd, yu, ye⟩ := heap_alloc_new _ _
    go_upto_region 8 with (fail)
    clear q0 q1 q2 q3 q4 q5 q6 q7 q8 q9 q10 q11 q12
    have hna2 := HNA.out.mv (b := w1.heap.size + 1) (Mv.of_ext hxb) (by have := HSZ.out; omega)
    have HYtnpenepdechkjaaGreatDoor := Lib.hid ((HX.out.trans HXA.out).trans hxb)
    generalize w1.alloc (.cells #[.string yn, .int .i64 yf, .string yo, .int .i64 yi.k, .int .i64 yi.n, .string yi.s, .slice yi.A yi.m yi.c, .int .i64 yd.k, .int .i64 yd.n, .string yd.s, .slice yd.A yd.m yd.c, .string yu, .string ye] 50) = w2 at *
    generalize w1.heap.size = gb at *
    have HXB := Lib.hid (HXA.out.trans hxb)
    clear hxb HSZ HNA
    generalize wr.heap.size = ga at *
    obtain ⟨k0, k1, k2, k3, k4, k5, k6, k7, k8, k9, k10, k11, k12⟩ := hna2.cs
    obtain ⟨j0, j1, j2, j3, j4, j5, j6, j7, j8, j9, j10, j11, j12⟩ := hnb.cs
    simp only at k0 k1 k2 k3 k4 k5 k6 k7 k8 k9 k10 k11 k12 j0 j1 j2 j3 j4 j5 j6 j7 j8 j9 j10 j11 j12
    clear hna2 hnb
    have HN := Lib.hid (show xn = bs x.name ∧ yn = bs y.name from ⟨HR1.out.name, HR2.out.name⟩)
    have HF := Lib.hid (show xf = x.from_ ∧ yf = y.from_ from ⟨HR1.out.from_, HR2.out.from_⟩)
    have HO := Lib.hid (show xo = bs x.on_ ∧ yo = bs y.on_ from ⟨HR1.out.on_, HR2.out.on_⟩)
    have HU := Lib.hid (show xu = bs x.unless_ ∧ yu = bs y.unless_ from ⟨HR1.out.unless_, HR2.out.unless_⟩)
    have HE := Lib.hid (show xe = bs x.else_ ∧ ye = bs y.else_ from ⟨HR1.out.else_, HR2.out.else_⟩)
    have HSI := Lib.hid (fun X (hX : Ext w2 X) => same_any (tsz x.if_) x.if_ y.if_ xi yi P Q X (Nat.le_refl _) HM1.out.1 HM2.out.1 (HR1.out.if_.ext (HXB.out.trans hX)) (HR2.out.if_.ext (HXB.out.trans hX)))
    have HSD := Lib.hid (fun X (hX : Ext w2 X) => same_any (tsz x.due) x.due y.due xd yd P Q X (Nat.le_refl _) HM1.out.2 HM2.out.2 (HR1.out.due.ext (HXB.out.trans hX)) (HR2.out.due.ext (HXB.out.trans hX)))
    clear HR1 HR2 HM1 HM2
    have HBAD := Lib.hid (fun h => eqRs_at HX1.out HX2.out h)
    by_cases e0 : x.name = y.name
    case neg =>
      have t0 := bs_ne HN.out.1 HN.out.2 e0
      have HV := Lib.hid (HBAD.out (show eqR x y = false by unfold eqR; simp [e0]))
      clear e0
      go_wp2
      go_ret
      exact ⟨ret_bool HV.out.symm, HYtnpenepdechkjaaGreatDoor.out⟩
    have t0 := bs_eq HN.out.1 HN.out.2 e0
    by_cases e1 : x.from_ = y.from_
    case neg =>
      have t1 : (xf != yf) = true := by rw [HF.out.1, HF.out.2, bne_iff_ne]; exact e1
      have HV := Lib.hid (HBAD.out (show eqR x y = false by unfold eqR; simp [e1]))
      clear e0 e1
      go_wp2
      go_ret
      exact ⟨ret_bool HV.out.symm, HYtnpenepdechkjaaGreatDoor.out⟩
    have t1 : (xf != yf) = false := by rw [HF.out.1, HF.out.2]; simp [e1]
    by_cases e2 : x.on_ = y.on_
    case neg =>
      have t2 := bs_ne HO.out.1 HO.out.2 e2
      have HV := Lib.hid (HBAD.out (show eqR x y = false by unfold eqR; simp [e2]))
      clear e0 e1 e2
      go_wp2
      go_ret
      exact ⟨ret_bool HV.out.symm, HYtnpenepdechkjaaGreatDoor.out⟩
    have t2 := bs_eq HO.out.1 HO.out.2 e2
    by_cases e3 : x.unless_ = y.unless_
    case neg =>
      have t3 := bs_ne HU.out.1 HU.out.2 e3
      have HV := Lib.hid (HBAD.out (show eqR x y = false by unfold eqR; simp [e3]))
      clear e0 e1 e2 e3
      go_wp2
      go_ret
      exact ⟨ret_bool HV.out.symm, HYtnpenepdechkjaaGreatDoor.out⟩
    have t3 := bs_eq HU.out.1 HU.out.2 e3
    by_cases e4 : x.else_ = y.else_
    case neg =>
      have t4 := bs_ne HE.out.1 HE.out.2 e4
      have HV := Lib.hid (HBAD.out (show eqR x y = false by unfold eqR; simp [e4]))
      clear e0 e1 e2 e3 e4
      go_wp2
      go_ret
      exact ⟨ret_bool HV.out.symm, HYtnpenepdechkjaaGreatDoor.out⟩
    have t4 := bs_eq HE.out.1 HE.out.2 e4
    have HEQ := Lib.hid (show eqR x y = (eqT x.if_ y.if_ && eqT x.due y.due) by unfold eqR; simp [e0, e1, e2, e3, e4])
    clear e0 e1 e2 e3 e4 HN HF HO HU HE
    cases hi : eqT x.if_ y.if_ with
    | false =>
      rw [hi] at HSI HEQ
      have HV := Lib.hid (HBAD.out (by rw [HEQ.out]; rfl))
      clear hi
      go_wp2_with (first | (go_at_call 20; refine (HSI.out _ (Ext.refl _)).mono ?_; rintro e6 w3 ⟨rfl, hx3⟩))
      go_ret
      exact ⟨ret_bool HV.out.symm, HYtnpenepdechkjaaGreatDoor.out.trans hx3⟩
    | true =>
      rw [hi] at HSI HEQ
      clear hi
      have HXJ := Lib.hid (fun X (hX : Ext w2 X) => (show X.cell? ⟨ga, 7, none⟩ = some (.int .i64 xd.k) ∧ X.cell? ⟨ga, 8, none⟩ = some (.int .i64 xd.n) ∧ X.cell? ⟨ga, 9, none⟩ = some (.string xd.s) ∧ X.cell? ⟨ga, 10, none⟩ = some (.slice xd.A xd.m xd.c) ∧ X.cell? ⟨gb, 7, none⟩ = some (.int .i64 yd.k) ∧ X.cell? ⟨gb, 8, none⟩ = some (.int .i64 yd.n) ∧ X.cell? ⟨gb, 9, none⟩ = some (.string yd.s) ∧ X.cell? ⟨gb, 10, none⟩ = some (.slice yd.A yd.m yd.c) from
        ⟨cells_ext k7 hX, cells_ext k8 hX, cells_ext k9 hX, cells_ext k10 hX, cells_ext j7 hX, cells_ext j8 hX, cells_ext j9 hX, cells_ext j10 hX⟩))
      cases hd : eqT x.due y.due with
      | false =>
        rw [hd] at HSD HEQ
        have HV := Lib.hid (HBAD.out (by rw [HEQ.out]; rfl))
        clear hd
        go_wp2_with fail
        refine (HSI.out _ (Ext.refl _)).mono ?_
        rintro e6 w3 ⟨rfl, hx3⟩
        obtain ⟨m7, m8, m9, m10, n7, n8, n9, n10⟩ := HXJ.out _ hx3
        have HX3 := Lib.hid hx3
        clear hx3
        go_wp2_with fail
        refine (HSD.out _ HX3.out).mono ?_
        rintro e7 w4 ⟨rfl, hx4⟩
        go_wp2
        go_ret
        exact ⟨ret_bool HV.out.symm, (HYtnpenepdechkjaaGreatDoor.out.trans HX3.out).trans hx4⟩
      | true =>
        rw [hd] at HSD HEQ
        have HXY := Lib.hid ((eqR_iff x y).1 (by rw [HEQ.out]; rfl))
        clear hd
        go_wp2_with fail
        refine (HSI.out _ (Ext.refl _)).mono ?_
        rintro e6 w3 ⟨rfl, hx3⟩
        obtain ⟨m7, m8, m9, m10, n7, n8, n9, n10⟩ := HXJ.out _ hx3
        have HX3 := Lib.hid hx3
        clear hx3
        go_wp2_with fail
        refine (HSD.out _ HX3.out).mono ?_
        rintro e7 w4 ⟨rfl, hx4⟩
        go_wp2
        refine ⟨⟨k + 1, by omega, by simp, ?_, (HYtnpenepdechkjaaGreatDoor.out.trans HX3.out).trans hx4⟩, by simp only [toM]; omega⟩
        rw [List.take_add_one, List.take_add_one, HX1.out, HX2.out, HTK.out, HXY.out]
end Go.Proofs.YtnpenepdechkjaaGreatDoor

/- The law of spaces walked. -/
namespace Go.Proofs.YtnpenepdechkjaaGreatDoor
open Go Go.RowKit

end Go.Proofs.YtnpenepdechkjaaGreatDoor
