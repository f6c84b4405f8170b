/- The reference's SameRules. -/
import Derived.Test.YtnpenepdechkjaaGreatDoorMh
import Derived.Test.YtnpenepdechkjaaGreatDoorMg
namespace Go.Proofs.YtnpenepdechkjaaGreatDoor
open Go Go.RowKit

def eqR (x y : Rl) : Bool := decide (x.name = y.name) && (decide (x.from_ = y.from_) && (decide (x.on_ = y.on_) && (decide (x.unless_ = y.unless_) && (decide (x.else_ = y.else_) && (eqT x.if_ y.if_ && eqT x.due y.due)))))
theorem eqR_iff (x y : Rl) : eqR x y = true ↔ x = y := by
  unfold eqR
  cases x; cases y
  simp only [Bool.and_eq_true, decide_eq_true_eq, eqT_iff, Rl.mk.injEq]
  constructor
  · rintro ⟨rfl, rfl, rfl, rfl, rfl, rfl, rfl⟩; exact ⟨rfl, rfl, rfl, rfl, rfl, rfl, rfl⟩
  · rintro ⟨rfl, rfl, rfl, rfl, rfl, rfl, rfl⟩; exact ⟨rfl, rfl, rfl, rfl, rfl, rfl, rfl⟩
def eqRs : List Rl → List Rl → Bool
  | [], [] => true
  | a :: r, b :: r2 => eqR a b && eqRs r r2
  | _, _ => false
theorem eqRs_iff : ∀ (a b : List Rl), eqRs a b = true ↔ a = b
  | [], [] => by simp [eqRs]
  | [], _ :: _ => by simp [eqRs]
  | _ :: _, [] => by simp [eqRs]
  | a :: r, b :: r2 => by
    have h1 := eqR_iff a b
    have h2 := eqRs_iff r r2
    simp only [eqRs, Bool.and_eq_true, h1, h2, List.cons.injEq]
theorem eqRs_len {a b : List Rl} (h : a.length ≠ b.length) : eqRs a b = false := by
  cases hh : eqRs a b with
  | false => rfl
  | true => exact absurd (congrArg List.length ((eqRs_iff a b).1 hh)) h
theorem eqRs_at {a b : List Rl} {k : Nat} {x y : Rl} (h1 : a[k]? = some x) (h2 : b[k]? = some y) (h : eqR x y = false) : eqRs a b = false := by
  cases hh : eqRs a b with
  | false => rfl
  | true =>
    have e := (eqRs_iff a b).1 hh
    subst e
    rw [h1] at h2
    injection h2 with h2
    rw [(eqR_iff x y).2 h2] at h; cases h
theorem eqRs_all {a b : List Rl} (hl : a.length = b.length) (h : a.take a.length = b.take a.length) : eqRs a b = true := by
  rw [eqRs_iff]
  rw [List.take_length, hl, List.take_length] at h
  exact h
def SrRel (W : World) (a b : List Rl) (s5 : Value) (X : World) : Prop := ∃ k : Nat, k ≤ a.length ∧ s5 = .int .i64 k ∧ a.take k = b.take k ∧ Ext W X
set_option maxHeartbeats 2000000 in
set_option maxRecDepth 100000 in
theorem sameR_any (A B : Option Addr) (c c' : Nat) (a b : List Rl) (P Q : Nat → Prop) (W : World) (hla : a.length ≤ 1000000) (_hlb : b.length ≤ 1000000) (hta : ∀ r ∈ a, tsz r.if_ ≤ 1000000 ∧ tsz r.due ≤ 1000000) (htb : ∀ r ∈ b, tsz r.if_ ≤ 1000000 ∧ tsz r.due ≤ 1000000)
    (ha : RW W P A a.length a) (hb : RW W Q B b.length b) : Calls Tryz.prog 16 #[.slice A a.length c, .slice B b.length c'] W (BQ2 (eqRs a b) W) := by
  have HA := Lib.hid ha
  have HB := Lib.hid hb
  have HTA := Lib.hid hta
  have HTB := Lib.hid htb
  clear ha hb hta htb
  by_cases hlen : a.length = b.length
  case neg =>
    have t0 : ((a.length : Int) != (b.length : Int)) = true := by rw [bne_iff_ne]; omega
    have HV := Lib.hid (eqRs_len hlen)
    clear hlen
    go_enter Tryz.func16, Tryz.ntmps16
    go_wp2
    go_ret
    exact ⟨ret_bool HV.out.symm, Ext.refl _⟩
  have t0 : ((a.length : Int) != (b.length : Int)) = false := by simp [hlen]
  have HL := Lib.hid hlen
  clear hlen
  go_enter Tryz.func16, Tryz.ntmps16
  go_upto_region 3 with (fail)
  clear t0
  go_wp2_with fail
  go_loopw [5] (fun s5 X => SrRel W a b s5 X) (fun s5 _ => toM a.length s5)
  case atStart => exact ⟨0, Nat.zero_le _, rfl, rfl, Ext.refl _⟩
  case round =>
    obtain ⟨k, hk, rfl, htk, hx⟩ := hrel
    have HTK := Lib.hid htk
    have HX := Lib.hid hx
    clear htk hx
    by_cases hlt : k < a.length
    case neg =>
      obtain rfl : k = a.length := by omega
      have hni : ¬ ((a.length : Int) < (a.length : Int)) := by omega
      go_wp2
      go_ret
      exact ⟨ret_bool (eqRs_all HL.out HTK.out).symm, HX.out⟩
    have hlt2 : k < b.length := by rw [← HL.out]; exact hlt
    have hI1 : (k : Int) < (a.length : Int) := by omega
    have hI2 : (k : Int) < (b.length : Int) := by omega
    obtain ⟨g1, o1, d1, x, hA1, hg1, hx1, hm1, hr1, p0, p1, p2, p3, p4, p5, p6, p7, p8, p9, p10, p11, p12⟩ := (HA.out.ext HX.out).at_ hlt
    obtain ⟨g2, o2, d2, y, hA2, hg2, hx2, hm2, hr2, q0, q1, q2, q3, q4, q5, q6, q7, q8, q9, q10, q11, q12⟩ := (HB.out.ext HX.out).at_ hlt2
    subst hA1 hA2
    have HX1 := Lib.hid hx1
    have HX2 := Lib.hid hx2
    have HM1 := Lib.hid (HTA.out x hm1)
    have HM2 := Lib.hid (HTB.out y hm2)
    have HR1 := Lib.hid hr1
    have HR2 := Lib.hid hr2
    clear hx1 hx2 hm1 hm2 hr1 hr2
    obtain ⟨xn, xf, xo, xi, xd, xu, xe⟩ := d1
    obtain ⟨yn, yf, yo, yi, yd, yu, ye⟩ := d2
    simp only at p0 p1 p2 p3 p4 p5 p6 p7 p8 p9 p10 p11 p12 q0 q1 q2 q3 q4 q5 q6 q7 q8 q9 q10 q11 q12
    have hg1' := block_lt_of_cell p0
    have hg2' := block_lt_of_cell q0
    have hxa : Ext wr (wr.alloc (.cells #[.string xn, .int .i64 xf, .string xo, .int .i64 xi.k, .int .i64 xi.n, .string xi.s, .slice xi.A xi.m xi.c, .int .i64 xd.k, .int .i64 xd.n, .string xd.s, .slice xd.A xd.m xd.c, .string xu, .string xe] 50)) := (Ext.refl _).alloc _
    have hna : RX (wr.alloc (.cells #[.string xn, .int .i64 xf, .string xo, .int .i64 xi.k, .int .i64 xi.n, .string xi.s, .slice xi.A xi.m xi.c, .int .i64 xd.k, .int .i64 xd.n, .string xd.s, .slice xd.A xd.m xd.c, .string xu, .string xe] 50)) wr.heap.size ⟨xn, xf, xo, xi, xd, xu, xe⟩ := heap_alloc_new _ _
    have hsz : (wr.alloc (.cells #[.string xn, .int .i64 xf, .string xo, .int .i64 xi.k, .int .i64 xi.n, .string xi.s, .slice xi.A xi.m xi.c, .int .i64 xd.k, .int .i64 xd.n, .string xd.s, .slice xd.A xd.m xd.c, .string xu, .string xe] 50)).heap.size = wr.heap.size + 1 := by simp
    go_upto_region 7 with (fail)
    replace q0 := cells_ext q0 hxa
    replace q1 := cells_ext q1 hxa
    replace q2 := cells_ext q2 hxa
    replace q3 := cells_ext q3 hxa
    replace q4 := cells_ext q4 hxa
    replace q5 := cells_ext q5 hxa
    replace q6 := cells_ext q6 hxa
    replace q7 := cells_ext q7 hxa
    replace q8 := cells_ext q8 hxa
    replace q9 := cells_ext q9 hxa
    replace q10 := cells_ext q10 hxa
    replace q11 := cells_ext q11 hxa
    replace q12 := cells_ext q12 hxa
    clear p0 p1 p2 p3 p4 p5 p6 p7 p8 p9 p10 p11 p12 hg1' hg2'
    generalize wr.alloc (.cells #[.string xn, .int .i64 xf, .string xo, .int .i64 xi.k, .int .i64 xi.n, .string xi.s, .slice xi.A xi.m xi.c, .int .i64 xd.k, .int .i64 xd.n, .string xd.s, .slice xd.A xd.m xd.c, .string xu, .string xe] 50) = w1 at *
    have HXA := Lib.hid hxa
    have HNA := Lib.hid hna
    have HSZ := Lib.hid hsz
    clear hxa hna hsz
    have hxb : Ext w1 (w1.alloc (.cells #[.string yn, .int .i64 yf, .string yo, .int .i64 yi.k, .int .i64 yi.n, .string yi.s, .slice yi.A yi.m yi.c, .int .i64 yd.k, .int .i64 yd.n, .string yd.s, .slice yd.A yd.m yd.c, .string yu, .string ye] 50)) := (Ext.refl _).alloc _
    have hnb : RX (w1.alloc (.cells #[.string yn, .int .i64 yf, .string yo, .int .i64 yi.k, .int .i64 yi.n, .string yi.s, .slice yi.A yi.m yi.c, .int .i64 yd.k, .int .i64 yd.n, .string yd.s, .slice yd.A yd.m yd.c, .string yu, .string ye] 50)) w1.heap.size ⟨yn, yf, yo, yi, yd, yu, ye⟩ := heap_alloc_new _ _
    go_upto_region 8 with (fail)
    clear q0 q1 q2 q3 q4 q5 q6 q7 q8 q9 q10 q11 q12
    have hna2 := HNA.out.mv (b := w1.heap.size + 1) (Mv.of_ext hxb) (by have := HSZ.out; omega)
    have HYtnpenepdechkjaaGreatDoor := Lib.hid ((HX.out.trans HXA.out).trans hxb)
    generalize w1.alloc (.cells #[.string yn, .int .i64 yf, .string yo, .int .i64 yi.k, .int .i64 yi.n, .string yi.s, .slice yi.A yi.m yi.c, .int .i64 yd.k, .int .i64 yd.n, .string yd.s, .slice yd.A yd.m yd.c, .string yu, .string ye] 50) = w2 at *
    generalize w1.heap.size = gb at *
    have HXB := Lib.hid (HXA.out.trans hxb)
    clear hxb HSZ HNA
    generalize wr.heap.size = ga at *
    obtain ⟨k0, k1, k2, k3, k4, k5, k6, k7, k8, k9, k10, k11, k12⟩ := hna2.cs
    obtain ⟨j0, j1, j2, j3, j4, j5, j6, j7, j8, j9, j10, j11, j12⟩ := hnb.cs
    simp only at k0 k1 k2 k3 k4 k5 k6 k7 k8 k9 k10 k11 k12 j0 j1 j2 j3 j4 j5 j6 j7 j8 j9 j10 j11 j12
    clear hna2 hnb
    have HN := Lib.hid (show xn = bs x.name ∧ yn = bs y.name from ⟨HR1.out.name, HR2.out.name⟩)
    have HF := Lib.hid (show xf = x.from_ ∧ yf = y.from_ from ⟨HR1.out.from_, HR2.out.from_⟩)
    have HO := Lib.hid (show xo = bs x.on_ ∧ yo = bs y.on_ from ⟨HR1.out.on_, HR2.out.on_⟩)
    have HU := Lib.hid (show xu = bs x.unless_ ∧ yu = bs y.unless_ from ⟨HR1.out.unless_, HR2.out.unless_⟩)
    have HE := Lib.hid (show xe = bs x.else_ ∧ ye = bs y.else_ from ⟨HR1.out.else_, HR2.out.else_⟩)
    have HSI := Lib.hid (fun X (hX : Ext w2 X) => same_any (tsz x.if_) x.if_ y.if_ xi yi P Q X (Nat.le_refl _) HM1.out.1 HM2.out.1 (HR1.out.if_.ext (HXB.out.trans hX)) (HR2.out.if_.ext (HXB.out.trans hX)))
    have HSD := Lib.hid (fun X (hX : Ext w2 X) => same_any (tsz x.due) x.due y.due xd yd P Q X (Nat.le_refl _) HM1.out.2 HM2.out.2 (HR1.out.due.ext (HXB.out.trans hX)) (HR2.out.due.ext (HXB.out.trans hX)))
    clear HR1 HR2 HM1 HM2
    have HBAD := Lib.hid (fun h => eqRs_at HX1.out HX2.out h)
    by_cases e0 : x.name = y.name
    case neg =>
      have t0 := bs_ne HN.out.1 HN.out.2 e0
      have HV := Lib.hid (HBAD.out (show eqR x y = false by unfold eqR; simp [e0]))
      clear e0
      go_wp2
      go_ret
      exact ⟨ret_bool HV.out.symm, HYtnpenepdechkjaaGreatDoor.out⟩
    have t0 := bs_eq HN.out.1 HN.out.2 e0
    by_cases e1 : x.from_ = y.from_
    case neg =>
      have t1 : (xf != yf) = true := by rw [HF.out.1, HF.out.2, bne_iff_ne]; exact e1
      have HV := Lib.hid (HBAD.out (show eqR x y = false by unfold eqR; simp [e1]))
      clear e0 e1
      go_wp2
      go_ret
      exact ⟨ret_bool HV.out.symm, HYtnpenepdechkjaaGreatDoor.out⟩
    have t1 : (xf != yf) = false := by rw [HF.out.1, HF.out.2]; simp [e1]
    by_cases e2 : x.on_ = y.on_
    case neg =>
      have t2 := bs_ne HO.out.1 HO.out.2 e2
      have HV := Lib.hid (HBAD.out (show eqR x y = false by unfold eqR; simp [e2]))
      clear e0 e1 e2
      go_wp2
      go_ret
      exact ⟨ret_bool HV.out.symm, HYtnpenepdechkjaaGreatDoor.out⟩
    have t2 := bs_eq HO.out.1 HO.out.2 e2
    by_cases e3 : x.unless_ = y.unless_
    case neg =>
      have t3 := bs_ne HU.out.1 HU.out.2 e3
      have HV := Lib.hid (HBAD.out (show eqR x y = false by unfold eqR; simp [e3]))
      clear e0 e1 e2 e3
      go_wp2
      go_ret
      exact ⟨ret_bool HV.out.symm, HYtnpenepdechkjaaGreatDoor.out⟩
    have t3 := bs_eq HU.out.1 HU.out.2 e3
    by_cases e4 : x.else_ = y.else_
    case neg =>
      have t4 := bs_ne HE.out.1 HE.out.2 e4
      have HV := Lib.hid (HBAD.out (show eqR x y = false by unfold eqR; simp [e4]))
      clear e0 e1 e2 e3 e4
      go_wp2
      go_ret
      exact ⟨ret_bool HV.out.symm, HYtnpenepdechkjaaGreatDoor.out⟩
    have t4 := bs_eq HE.out.1 HE.out.2 e4
    have HEQ := Lib.hid (show eqR x y = (eqT x.if_ y.if_ && eqT x.due y.due) by unfold eqR; simp [e0, e1, e2, e3, e4])
    clear e0 e1 e2 e3 e4 HN HF HO HU HE
    cases hi : eqT x.if_ y.if_ with
    | false =>
      rw [hi] at HSI HEQ
      have HV := Lib.hid (HBAD.out (by rw [HEQ.out]; rfl))
      clear hi
      go_wp2_with (first | (go_at_call 20; refine (HSI.out _ (Ext.refl _)).mono ?_; rintro e6 w3 ⟨rfl, hx3⟩))
      go_ret
      exact ⟨ret_bool HV.out.symm, HYtnpenepdechkjaaGreatDoor.out.trans hx3⟩
    | true =>
      rw [hi] at HSI HEQ
      clear hi
      have HXJ := Lib.hid (fun X (hX : Ext w2 X) => (show X.cell? ⟨ga, 7, none⟩ = some (.int .i64 xd.k) ∧ X.cell? ⟨ga, 8, none⟩ = some (.int .i64 xd.n) ∧ X.cell? ⟨ga, 9, none⟩ = some (.string xd.s) ∧ X.cell? ⟨ga, 10, none⟩ = some (.slice xd.A xd.m xd.c) ∧ X.cell? ⟨gb, 7, none⟩ = some (.int .i64 yd.k) ∧ X.cell? ⟨gb, 8, none⟩ = some (.int .i64 yd.n) ∧ X.cell? ⟨gb, 9, none⟩ = some (.string yd.s) ∧ X.cell? ⟨gb, 10, none⟩ = some (.slice yd.A yd.m yd.c) from
        ⟨cells_ext k7 hX, cells_ext k8 hX, cells_ext k9 hX, cells_ext k10 hX, cells_ext j7 hX, cells_ext j8 hX, cells_ext j9 hX, cells_ext j10 hX⟩))
      cases hd : eqT x.due y.due with
      | false =>
        rw [hd] at HSD HEQ
        have HV := Lib.hid (HBAD.out (by rw [HEQ.out]; rfl))
        clear hd
        go_wp2_with fail
        refine (HSI.out _ (Ext.refl _)).mono ?_
        rintro e6 w3 ⟨rfl, hx3⟩
        obtain ⟨m7, m8, m9, m10, n7, n8, n9, n10⟩ := HXJ.out _ hx3
        have HX3 := Lib.hid hx3
        clear hx3
        go_wp2_with fail
        refine (HSD.out _ HX3.out).mono ?_
        rintro e7 w4 ⟨rfl, hx4⟩
        go_wp2
        go_ret
        exact ⟨ret_bool HV.out.symm, (HYtnpenepdechkjaaGreatDoor.out.trans HX3.out).trans hx4⟩
      | true =>
        rw [hd] at HSD HEQ
        have HXY := Lib.hid ((eqR_iff x y).1 (by rw [HEQ.out]; rfl))
        clear hd
        go_wp2_with fail
        refine (HSI.out _ (Ext.refl _)).mono ?_
        rintro e6 w3 ⟨rfl, hx3⟩
        obtain ⟨m7, m8, m9, m10, n7, n8, n9, n10⟩ := HXJ.out _ hx3
        have HX3 := Lib.hid hx3
        clear hx3
        go_wp2_with fail
        refine (HSD.out _ HX3.out).mono ?_
        rintro e7 w4 ⟨rfl, hx4⟩
        go_wp2
        refine ⟨⟨k + 1, by omega, by simp, ?_, (HYtnpenepdechkjaaGreatDoor.out.trans HX3.out).trans hx4⟩, by simp only [toM]; omega⟩
        rw [List.take_add_one, List.take_add_one, HX1.out, HX2.out, HTK.out, HXY.out]
end Go.Proofs.YtnpenepdechkjaaGreatDoor

/- Parsed trees are no larger than the source; tokens of the same kinds, texts and numbers are parsed alike. -/
namespace Go.Proofs.YtnpenepdechkjaaGreatDoor
open Go

theorem hd_ne {r : List Tk} (h : hd r ≠ tkE) : ∃ t s, r = t :: s ∧ hd r = t := by
  cases r with
  | nil => exact absurd rfl h
  | cons t s => exact ⟨t, s, rfl, rfl⟩
theorem tail_lt {r : List Tk} (h : hd r ≠ tkE) : r.tail.length + 1 ≤ r.length := by
  obtain ⟨t, s, rfl, _⟩ := hd_ne h
  simp
theorem opens_sz {s : List UInt8} (hs : s ≠ []) {o : Nat} {r r1 : List Tk} {u : Unit} (h : opensP s o r = .ok u r1) : r1.length + 1 ≤ r.length := by
  unfold opensP at h
  split at h
  · rename_i h1
    split at h
    · cases h
    · obtain ⟨_, rfl⟩ := PR.ok_inj h
      exact tail_lt (fun e => hs (by rw [← h1, e]; rfl))
  · cases h
theorem must_sz {s : List UInt8} (hs : s ≠ []) {r r1 : List Tk} {u : Unit} (h : mustP s r = .ok u r1) : r1.length + 1 ≤ r.length := by
  unfold mustP at h
  split at h
  · rename_i h1
    obtain ⟨_, rfl⟩ := PR.ok_inj h
    exact tail_lt (fun e => hs (by rw [← h1, e]; rfl))
  · cases h
theorem tok_sz {k : Int} (hk : k ≠ 0) {r r1 : List Tk} {t : Tk} (h : tokP k r = .ok t r1) : r1.length + 1 ≤ r.length := by
  unfold tokP at h
  split at h
  · rename_i h1
    obtain ⟨_, rfl⟩ := PR.ok_inj h
    exact tail_lt (fun e => hk (by rw [← h1, e]; rfl))
  · cases h
theorem join_sz (lv : Nat) (op : List UInt8) (a b : Tr) (r : List Tk) : tsz (joinP lv op a b r).1 = 1 + (tsz a + tsz b) ∧ (joinP lv op a b r).2.length ≤ r.length := by
  refine ⟨?_, ?_⟩
  · unfold joinP
    split <;> simp [tsz, tszs]
  · unfold joinP
    split
    · simp
    · exact Nat.le_refl _
def SzE (E : Nat → Nat → List Tk → PR Tr) : Prop := ∀ lv o r t r', E lv o r = .ok t r' → tsz t + r'.length ≤ r.length
theorem loop_sz {E : Nat → Nat → List Tk → PR Tr} (hE : SzE E) {lv : Nat} (hlv : 1 ≤ lv) (o : Nat) : ∀ (g : Nat) (n : Tr) (r : List Tk) (t : Tr) (r' : List Tk) (m : Nat), tsz n + r.length ≤ m → loopP E lv o g n r = .ok t r' → tsz t + r'.length ≤ m
  | 0, n, r, t, r', m, hn, h => by
    rw [loopP] at h
    obtain ⟨rfl, rfl⟩ := PR.ok_inj h
    exact hn
  | g + 1, n, r, t, r', m, hn, h => by
    rw [loopP] at h
    split at h
    · rename_i h1
      obtain ⟨b, r2, h2, h3⟩ := PR.bind_inv h
      have h4 := hE _ _ _ _ _ h2
      have h5 := tail_lt (r := r) (fun e => by
        rw [e] at h1
        have : lvOf tkE.tx = 0 := by decide
        omega)
      have h6 := join_sz lv (hd r).tx n b r2
      split at h3
      · obtain ⟨rfl, rfl⟩ := PR.ok_inj h3
        omega
      · exact loop_sz hE hlv o g _ _ _ _ m (by omega) h3
    · obtain ⟨rfl, rfl⟩ := PR.ok_inj h
      exact hn
theorem call_sz {E : Nat → Nat → List Tk → PR Tr} (hE : SzE E) {o : Nat} {r : List Tk} {t : Tr} {r' : List Tk} (h : callP E o r = .ok t r') : tsz t + r'.length ≤ r.length := by
  unfold callP at h
  obtain ⟨x, r1, h1, h⟩ := PR.bind_inv h
  obtain ⟨_, r2, h2, h⟩ := PR.bind_inv h
  obtain ⟨a, r3, h3, h⟩ := PR.bind_inv h
  have g1 := tok_sz (by decide) h1
  have g2 := opens_sz (by decide) h2
  have g3 := hE _ _ _ _ _ h3
  split at h
  · obtain ⟨_, r4, h4, h⟩ := PR.bind_inv h
    have g4 := must_sz (by decide) h4
    obtain ⟨rfl, rfl⟩ := PR.ok_inj h
    simp only [tsz, tszs]; omega
  · obtain ⟨_, r4, h4, h⟩ := PR.bind_inv h
    obtain ⟨_, r5, h5, h⟩ := PR.bind_inv h
    obtain ⟨_, r6, h6, h⟩ := PR.bind_inv h
    have g4 := must_sz (by decide) h4
    have g5 := hE _ _ _ _ _ h5
    have g6 := must_sz (by decide) h6
    obtain ⟨rfl, rfl⟩ := PR.ok_inj h
    simp only [tsz, tszs]; omega
theorem choice_sz {E : Nat → Nat → List Tk → PR Tr} (hE : SzE E) {o : Nat} {r : List Tk} {t : Tr} {r' : List Tk} (h : choiceP E o r = .ok t r') : tsz t + r'.length ≤ r.length := by
  unfold choiceP at h
  obtain ⟨_, r1, h1, h⟩ := PR.bind_inv h
  obtain ⟨_, r2, h2, h⟩ := PR.bind_inv h
  obtain ⟨_, r3, h3, h⟩ := PR.bind_inv h
  obtain ⟨_, r4, h4, h⟩ := PR.bind_inv h
  obtain ⟨_, r5, h5, h⟩ := PR.bind_inv h
  obtain ⟨_, r6, h6, h⟩ := PR.bind_inv h
  obtain ⟨_, r7, h7, h⟩ := PR.bind_inv h
  have g1 := opens_sz (by decide) h1
  have g2 := hE _ _ _ _ _ h2
  have g3 := must_sz (by decide) h3
  have g4 := hE _ _ _ _ _ h4
  have g5 := must_sz (by decide) h5
  have g6 := hE _ _ _ _ _ h6
  have g7 := must_sz (by decide) h7
  obtain ⟨rfl, rfl⟩ := PR.ok_inj h
  simp only [tsz, tszs]; omega
theorem prim_sz {E : Nat → Nat → List Tk → PR Tr} (hE : SzE E) {o : Nat} {r : List Tk} {t : Tr} {r' : List Tk} (h : primP E o r = .ok t r') : tsz t + r'.length ≤ r.length := by
  unfold primP at h
  split at h
  · rename_i h1
    have g := tail_lt (r := r) (fun e => by rw [e] at h1; revert h1; decide)
    obtain ⟨rfl, rfl⟩ := PR.ok_inj h; simp only [tsz, tszs]; omega
  split at h
  · rename_i h1
    have g := tail_lt (r := r) (fun e => by rw [e] at h1; revert h1; decide)
    obtain ⟨rfl, rfl⟩ := PR.ok_inj h; simp only [tsz, tszs]; omega
  split at h
  · rename_i h1
    have g := tail_lt (r := r) (fun e => by rw [e] at h1; revert h1; decide)
    obtain ⟨rfl, rfl⟩ := PR.ok_inj h; simp only [tsz, tszs]; omega
  split at h
  · rename_i h1
    have g := tail_lt (r := r) (fun e => by rw [e] at h1; revert h1; decide)
    obtain ⟨rfl, rfl⟩ := PR.ok_inj h; simp only [tsz, tszs]; omega
  split at h
  · obtain ⟨_, r1, h1, h⟩ := PR.bind_inv h
    obtain ⟨n, r2, h2, h⟩ := PR.bind_inv h
    obtain ⟨_, r3, h3, h⟩ := PR.bind_inv h
    have g1 := opens_sz (by decide) h1
    have g2 := hE _ _ _ _ _ h2
    have g3 := must_sz (by decide) h3
    obtain ⟨rfl, rfl⟩ := PR.ok_inj h
    omega
  split at h
  · exact choice_sz hE h
  split at h
  · exact call_sz hE h
  split at h
  · rename_i h1
    have g := tail_lt (r := r) (fun e => by rw [e] at h1; revert h1; decide)
    obtain ⟨rfl, rfl⟩ := PR.ok_inj h; simp only [tsz, tszs]; omega
  · cases h
theorem expr_sz : ∀ (f : Nat) (lv o : Nat) (r : List Tk) (t : Tr) (r' : List Tk), 1 ≤ lv → exprP f lv o r = .ok t r' → tsz t + r'.length ≤ r.length
  | 0, _, _, _, _, _, _, h => by cases h
  | f + 1, lv, o, r, t, r', hlv, h => by
    have hE : SzE (fun lv => if lv = 0 then fun _ r => .bad r 0 else exprP f lv) := fun lv o r t r' h => by
      by_cases h0 : lv = 0
      · simp only [if_pos h0] at h; cases h
      · simp only [if_neg h0] at h
        exact expr_sz f lv o r t r' (by omega) h
    have key : ∀ lv o, 1 ≤ lv → exprP f lv o = (fun lv => if lv = 0 then fun _ r => .bad r 0 else exprP f lv) lv o := fun lv o h => by
      simp only [if_neg (show ¬ lv = 0 by omega)]
    rw [exprP, stepP] at h
    split at h
    · rename_i hc
      obtain ⟨_, r1, h1, h⟩ := PR.bind_inv h
      obtain ⟨n, r2, h2, h⟩ := PR.bind_inv h
      have g1 := opens_sz (by rcases hc with ⟨_, hc⟩ | ⟨_, hc⟩ <;> rw [hc] <;> decide) h1
      have g2 := expr_sz f _ _ _ _ _ hlv h2
      obtain ⟨rfl, rfl⟩ := PR.ok_inj h
      simp only [tsz, tszs]; omega
    split at h
    · have e9 : primP (exprP f) o r = primP (fun lv => if lv = 0 then fun _ r => .bad r 0 else exprP f lv) o r := by
        unfold primP choiceP callP
        simp only [key 1 (o + 1) (Nat.le_refl _)]
      rw [e9] at h
      exact prim_sz hE h
    · obtain ⟨n, r2, h1, h⟩ := PR.bind_inv h
      have g1 := expr_sz f _ _ _ _ _ (by omega) h1
      have e9 : ∀ (g : Nat) (n : Tr) (r : List Tk), loopP (exprP f) lv o g n r = loopP (fun lv => if lv = 0 then fun _ r => .bad r 0 else exprP f lv) lv o g n r := by
        intro g
        induction g with
        | zero => intro n r; rfl
        | succ g ih =>
          intro n r
          rw [loopP, loopP, key (lv + 1) o (by omega)]
          simp only [ih]
      rw [e9] at h
      exact loop_sz hE hlv o _ _ _ _ _ _ g1 h
/-- Trees of a rule that has been read. -/
theorem rule_sz {E : List Tk → PR Tr} (hE : ∀ r t r', E r = .ok t r' → tsz t + r'.length ≤ r.length) {r : List Tk} {x : Rl} {r' : List Tk} (h : ruleP E r = .ok x r') : tsz x.if_ ≤ r.length + 1 ∧ tsz x.due ≤ r.length ∧ r'.length + 1 ≤ r.length := by
  have hle : ∀ {w : List UInt8} {r r1 : List Tk} {u : Unit}, mustP w r = .ok u r1 → r1.length ≤ r.length := fun {w r r1 u} h => by
    unfold mustP at h
    split at h
    · obtain ⟨_, rfl⟩ := PR.ok_inj h; simp
    · cases h
  have hnm : ∀ {r r1 : List Tk} {u : List UInt8}, nameP r = .ok u r1 → r1.length ≤ r.length := fun {r r1 u} h => by
    unfold nameP at h
    split at h
    · cases h
    · obtain ⟨t, r2, h1, h2⟩ := PR.bind_inv h
      have := tok_sz (by decide) h1
      obtain ⟨_, rfl⟩ := PR.ok_inj h2
      omega
  have hpn : ∀ {w : List UInt8} {r r1 : List Tk} {u : List UInt8}, partP w [] nameP r = .ok u r1 → r1.length ≤ r.length := fun {w r r1 u} h => by
    unfold partP at h
    split at h
    · obtain ⟨a, r2, h1, h2⟩ := PR.bind_inv h
      obtain ⟨_, r3, h3, h4⟩ := PR.bind_inv h2
      have := hnm h1
      have := hle h3
      obtain ⟨_, rfl⟩ := PR.ok_inj h4
      simp only [List.length_tail] at *; omega
    · obtain ⟨_, rfl⟩ := PR.ok_inj h; exact Nat.le_refl _
  have hpe : ∀ {w : List UInt8} {r r1 : List Tk} {u : Tr}, partP w trTrue E r = .ok u r1 → r1.length ≤ r.length ∧ tsz u ≤ r.length + 1 := fun {w r r1 u} h => by
    unfold partP at h
    split at h
    · obtain ⟨a, r2, h1, h2⟩ := PR.bind_inv h
      obtain ⟨_, r3, h3, h4⟩ := PR.bind_inv h2
      have := hE _ _ _ h1
      have := hle h3
      obtain ⟨rfl, rfl⟩ := PR.ok_inj h4
      simp only [List.length_tail] at *; omega
    · obtain ⟨rfl, rfl⟩ := PR.ok_inj h
      refine ⟨Nat.le_refl _, ?_⟩
      simp [trTrue, tsz, tszs]
  unfold ruleP at h
  obtain ⟨_, r1, h1, h⟩ := PR.bind_inv h
  obtain ⟨_, r2, h2, h⟩ := PR.bind_inv h
  obtain ⟨_, r3, h3, h⟩ := PR.bind_inv h
  obtain ⟨_, r4, h4, h⟩ := PR.bind_inv h
  obtain ⟨_, r5, h5, h⟩ := PR.bind_inv h
  obtain ⟨_, r6, h6, h⟩ := PR.bind_inv h
  obtain ⟨_, r7, h7, h⟩ := PR.bind_inv h
  obtain ⟨_, r8, h8, h⟩ := PR.bind_inv h
  obtain ⟨_, r9, h9, h⟩ := PR.bind_inv h
  obtain ⟨_, r10, h10, h⟩ := PR.bind_inv h
  obtain ⟨_, r11, h11, h⟩ := PR.bind_inv h
  obtain ⟨_, r12, h12, h⟩ := PR.bind_inv h
  obtain ⟨_, r13, h13, h⟩ := PR.bind_inv h
  obtain ⟨_, r14, h14, h⟩ := PR.bind_inv h
  obtain ⟨_, r15, h15, h⟩ := PR.bind_inv h
  have g1 := must_sz (by decide) h1
  have g2 := hnm h2
  have g3 := hle h3
  have g4 := tok_sz (by decide) h4
  have g5 := hle h5
  have g6 := hle h6
  have g7 := hnm h7
  have g8 := hle h8
  have g9 := hpe h9
  have g10 := hle h10
  have g11 := hE _ _ _ h11
  have g12 := hle h12
  have g13 := hpn h13
  have g14 := hpn h14
  have g15 := hle h15
  obtain ⟨rfl, rfl⟩ := PR.ok_inj h
  refine ⟨?_, ?_, by omega⟩
  · simp only; omega
  · simp only; omega
theorem rules_sz {E : List Tk → PR Tr} (hE : ∀ r t r', E r = .ok t r' → tsz t + r'.length ≤ r.length) (m : Nat) : ∀ (g : Nat) (l : List Rl) (r : List Tk) (v : List Rl) (r' : List Tk), r.length + l.length ≤ m → (∀ x ∈ l, tsz x.if_ ≤ m + 1 ∧ tsz x.due ≤ m + 1) → rulesP E g l r = .ok v r' → v.length ≤ m ∧ ∀ x ∈ v, tsz x.if_ ≤ m + 1 ∧ tsz x.due ≤ m + 1
  | 0, l, r, v, r', hl, hx, h => by
    rw [rulesP] at h
    obtain ⟨rfl, rfl⟩ := PR.ok_inj h
    exact ⟨by omega, hx⟩
  | g + 1, l, r, v, r', hl, hx, h => by
    rw [rulesP] at h
    split at h
    · obtain ⟨rfl, rfl⟩ := PR.ok_inj h
      exact ⟨by omega, hx⟩
    · obtain ⟨x, r2, h1, h2⟩ := PR.bind_inv h
      obtain ⟨g1, g2, g3⟩ := rule_sz hE h1
      refine rules_sz hE m g (l ++ [x]) r2 v r' (by simp; omega) (fun y hy => ?_) h2
      rcases List.mem_append.1 hy with hy | hy
      · exact hx y hy
      · obtain rfl : y = x := by simpa using hy
        omega
theorem EX_sz (r : List Tk) (t : Tr) (r' : List Tk) (h : EX r = .ok t r') : tsz t + r'.length ≤ r.length := expr_sz 40000 1 0 r t r' (Nat.le_refl _) h
theorem parseR_sz (s : List UInt8) : (parseR s).1.length ≤ 4001 ∧ ∀ x ∈ (parseR s).1, tsz x.if_ ≤ 4002 ∧ tsz x.due ≤ 4002 := by
  have h0 : ([] : List Rl).length ≤ 4001 ∧ ∀ x ∈ ([] : List Rl), tsz x.if_ ≤ 4002 ∧ tsz x.due ≤ 4002 := ⟨by simp, fun x hx => by cases hx⟩
  unfold parseR parseG
  by_cases he : (lexT s).e = 0
  · rw [if_pos he]
    obtain ⟨_, h2, _⟩ := lexT_ok he
    cases h : RP EX [] (lexT s).l with
    | bad r e => exact h0
    | ok v r =>
      simp only
      split
      · exact rules_sz EX_sz 4001 _ _ _ _ _ (by simpa using h2) (fun x hx => by cases hx) h
      · exact h0
  · rw [if_neg he]; exact h0
/-- Tokens that are the same but for their places. -/
theorem loc_map {α : Type} {p : List Tk → PR α} {l l' : List Tk} (h : Loc l.length p) (hm : l'.map tri = l.map tri) : ∃ r', p l' = (p l).re r' ∧ r'.map tri = (p l).rs.map tri := by
  obtain ⟨pre, h1, _, h3⟩ := h l (Nat.le_refl _)
  have h4 : l'.map tri = pre.map tri ++ (p l).rs.map tri := by rw [hm, ← List.map_append]; exact congrArg _ h1
  obtain ⟨x, y, rfl, hx, hy⟩ := List.map_eq_append_iff.1 h4
  refine ⟨y, h3 x y hx ?_, hy⟩
  cases hr : (p l).rs with
  | nil =>
    rw [hr] at hy
    have : y = [] := by simpa using hy
    rw [this]
  | cons a b =>
    rw [hr] at hy
    cases y with
    | nil => simp at hy
    | cons a' b' =>
      simp only [List.map_cons, List.cons.injEq] at hy
      exact hy.1
theorem parseG_map {α : Type} {rd rd' : List Tk → PR α} (d : α) {x x' : LexR} (he : x.e = 0) (he' : x'.e = 0) (h : ∃ r', rd' x'.l = (rd x.l).re r' ∧ r'.map tri = (rd x.l).rs.map tri) :
    (parseG rd' d x').1 = (parseG rd d x).1 ∧ (parseG rd' d x').2.2 = (parseG rd d x).2.2 := by
  obtain ⟨r', h1, h2⟩ := h
  unfold parseG
  rw [if_pos he, if_pos he', h1]
  cases hr : rd x.l with
  | bad r e => exact ⟨rfl, rfl⟩
  | ok v r =>
    rw [hr] at h2
    have h3 : (hd r').kd = (hd r).kd := by
      have h2' : r'.map tri = r.map tri := h2
      cases r with
      | nil =>
        have : r' = [] := by simpa using h2'
        rw [this]
      | cons a b =>
        cases r' with
        | nil => simp at h2'
        | cons a' b' =>
          simp only [List.map_cons, List.cons.injEq] at h2'
          exact congrArg (fun x => x.1) h2'.1
    simp only [PR.re, h3]
    split <;> exact ⟨rfl, rfl⟩
theorem loc_RP (l : List Rl) {x x' : List Tk} (hm : x'.map tri = x.map tri) : ∃ r', RP EX l x' = (RP EX l x).re r' ∧ r'.map tri = (RP EX l x).rs.map tri := by
  have hl : x'.length = x.length := by simpa using congrArg List.length hm
  unfold RP
  rw [hl]
  exact loc_map (loc_rules loc_EX x.length x.length l) hm
/-- The law of spaces. -/
theorem spaces_R {s : List UInt8} (h : (parseR s).2.2 = 0) (hl : (showP (lexT s).l).length ≤ 4000) : (parseR (showP (lexT s).l)).1 = (parseR s).1 ∧ (parseR (showP (lexT s).l)).2.2 = 0 := by
  by_cases he : (lexT s).e = 0
  · obtain ⟨_, _, _, _, h5, _⟩ := lexT_ok he
    rw [h5] at he hl ⊢
    obtain ⟨r1, _, r3⟩ := round_law he
    have e9 : lexT (showP (lexW 0 s).l) = lexW 0 (showP (lexW 0 s).l) := by rw [lexT, if_neg (by omega)]
    have := parseG_map (rd := RP EX []) (rd' := RP EX []) ([] : List Rl) (x := lexW 0 s) (x' := lexW 0 (showP (lexW 0 s).l)) he r1 (loc_RP [] r3)
    unfold parseR
    rw [e9]
    unfold parseR at h
    rw [h5] at h ⊢
    exact ⟨this.1, this.2.trans h⟩
  · exfalso
    unfold parseR parseG at h
    rw [if_neg he] at h
    exact he h
end Go.Proofs.YtnpenepdechkjaaGreatDoor

/- The law of spaces walked. -/
namespace Go.Proofs.YtnpenepdechkjaaGreatDoor
open Go Go.RowKit

theorem tot_lex {s : List UInt8} : tot (lexT s).l ≤ 10000000 := by
  unfold lexT
  split
  · decide
  · have := (lex_len s.length s (Nat.le_refl _) 0).2; omega
theorem joined_any (s : ByteArray) (w : World) (hs : s.size ≤ 281474976710656) (hE : Env13 w) : Calls Tryz.prog 32 #[.string s] w (StrPost (showP (lexT s.data.toList).l) w) := by
  have HC := Lib.hid (tokens_any s w hs hE.1 hE.2.1)
  have HSH := Lib.hid (fun X A c (h : SL tcf 4 X A (lexT s.data.toList).l.length (lexT s.data.toList).l) => lshow_any A c (lexT s.data.toList).l X tot_lex h)
  obtain ⟨x, hx⟩ : ∃ x, x = lexT s.data.toList := ⟨_, rfl⟩
  rw [← hx] at HC HSH ⊢
  obtain ⟨n, hn⟩ : ∃ n, n = x.l.length := ⟨_, rfl⟩
  unfold TokPost at HC
  rw [← hn] at HC HSH
  clear hE hx hn
  go_enter Tryz.func32, Tryz.ntmps32
  go_wp2_with (first
    | (go_at_call 28; refine (HC.out).mono ?_; rintro e w1 ⟨A, c, rfl, hsl, hx1, _⟩; have HSL := Lib.hid hsl; have HX1 := Lib.hid hx1; clear hsl hx1)
    | (go_at_call 71; refine (HSH.out _ _ _ HSL.out).mono ?_; rintro e w2 ⟨rfl, hx2⟩))
  go_ret
  exact ⟨rfl, HX1.out.trans hx2⟩
set_option maxHeartbeats 2000000 in
set_option maxRecDepth 100000 in
theorem spaces_any (s : ByteArray) (w : World) (hs : s.size ≤ 281474976710656) (hE : EnvP w) : Calls Tryz.prog 13 #[.string s] w (BQ2 true w) := by
  have HE := Lib.hid hE
  have HP := Lib.hid (pParse_any s w hs hE.1)
  have HJ := Lib.hid (fun X (hX : Ext w X) => joined_any s X hs (hE.1.ext hX))
  have HLV := Lib.hid (fun X (hX : Ext w X) => lives_any X (hE.ext hX))
  have HSZ := Lib.hid (parseR_sz s.data.toList)
  obtain ⟨y, hy⟩ : ∃ y, y = parseR s.data.toList := ⟨_, rfl⟩
  obtain ⟨J, hJ⟩ : ∃ J, J = bs (showP (lexT s.data.toList).l) := ⟨_, rfl⟩
  have hJl : J.size = (showP (lexT s.data.toList).l).length := by rw [hJ, bs_size]
  unfold StrPost at HJ
  rw [show (⟨(showP (lexT s.data.toList).l).toArray⟩ : ByteArray) = J from hJ.symm] at HJ
  have HLAW := Lib.hid (fun h => spaces_R (s := s.data.toList) h)
  rw [← hy] at HP HSZ HLAW
  rw [← hJl] at HLAW
  have HJD := Lib.hid (show J.data.toList = showP (lexT s.data.toList).l from by rw [hJ])
  clear hE hy hJ hJl
  obtain ⟨v, at_, er⟩ := y
  simp only at HP HSZ HLAW
  by_cases he : er = 0
  case neg =>
    have t0 : (er != 0) = true := by simpa using he
    clear he
    go_enter Tryz.func13, Tryz.ntmps13
    go_wp2_with (first
      | (go_at_call 14; refine (HP.out).mono ?_; rintro e w1 ⟨v1, rfl, ⟨A1, c1, rfl, _⟩, hx1⟩; have HX1 := Lib.hid hx1; clear hx1)
      | (go_at_call 32; refine (HJ.out _ HX1.out).mono ?_; rintro e w2 ⟨rfl, hx2⟩; have HX2 := Lib.hid (HX1.out.trans hx2); clear hx2)
      | (go_at_call 17; refine (HLV.out _ HX2.out).mono ?_; rintro e w3 ⟨rfl, hx3⟩))
    go_ret
    exact ⟨rfl, HX2.out.trans hx3⟩
  have t0 : (er != 0) = false := by simp [he]
  by_cases hl : J.size ≤ 4000
  case neg =>
    have t1 : (4000 : Int) < (J.size : Int) := by omega
    clear he hl
    go_enter Tryz.func13, Tryz.ntmps13
    go_wp2_with (first
      | (go_at_call 14; refine (HP.out).mono ?_; rintro e w1 ⟨v1, rfl, ⟨A1, c1, rfl, _⟩, hx1⟩; have HX1 := Lib.hid hx1; clear hx1)
      | (go_at_call 32; refine (HJ.out _ HX1.out).mono ?_; rintro e w2 ⟨rfl, hx2⟩; have HX2 := Lib.hid (HX1.out.trans hx2); clear hx2)
      | (go_at_call 17; refine (HLV.out _ HX2.out).mono ?_; rintro e w3 ⟨rfl, hx3⟩))
    go_ret
    exact ⟨rfl, HX2.out.trans hx3⟩
  have t1 : ¬ (4000 : Int) < (J.size : Int) := by omega
  obtain ⟨q1, q2⟩ := HLAW.out he hl
  have HP2 := Lib.hid (fun X (hX : Ext w X) => (show Calls Tryz.prog 14 #[.string J] X (fun e W' => ∃ A c a2, e = .returned (.tuple #[.slice A v.length c, .int .i64 a2, .int .i64 0]) ∧ RW W' (fun k => X.heap.size ≤ k) A v.length v ∧ Ext X W') from by
    refine (pParse_any J X (by omega) (HE.out.1.ext hX)).mono ?_
    rintro e W' ⟨v1, rfl, ⟨A, c, rfl, hrw⟩, hx⟩
    rw [HJD.out] at hrw ⊢
    rw [q1] at hrw ⊢
    rw [q2]
    exact ⟨A, c, _, rfl, hrw, hx⟩))
  have HSR := Lib.hid (fun A c B c' P Q X (ha : RW X P A v.length v) (hb : RW X Q B v.length v) => (show Calls Tryz.prog 16 #[.slice A v.length c, .slice B v.length c'] X (BQ2 true X) from by
    have h9 := sameR_any A B c c' v v P Q X (by have := HSZ.out.1; omega) (by have := HSZ.out.1; omega) (fun r hr => by have := HSZ.out.2 r hr; omega) (fun r hr => by have := HSZ.out.2 r hr; omega) ha hb
    rw [(eqRs_iff v v).2 rfl] at h9; exact h9))
  have he' := he
  clear he hl q1 q2
  subst he'
  obtain ⟨n, hn⟩ : ∃ n, n = v.length := ⟨_, rfl⟩
  unfold PaPost RWl at HP
  simp only at HP
  rw [← hn] at HP HP2 HSR
  clear hn t0
  go_enter Tryz.func13, Tryz.ntmps13
  go_upto_region 5 with (first
    | (go_at_call 14; refine (HP.out).mono ?_; rintro e w1 ⟨v1, rfl, ⟨A1, c1, rfl, hrw1⟩, hx1⟩; have HX1 := Lib.hid hx1; have HRW1 := Lib.hid hrw1; clear hx1 hrw1)
    | (go_at_call 32; refine (HJ.out _ HX1.out).mono ?_; rintro e w2 ⟨rfl, hx2⟩; have HX2 := Lib.hid (HX1.out.trans hx2); have HRW2 := Lib.hid (HRW1.out.ext hx2); clear hx2))
  go_wp2_with (first
    | (go_at_call 14; refine (HP2.out _ HX2.out).mono ?_; rintro e w3 ⟨A3, c3, a3, rfl, hrw3, hx3⟩; have HX3 := Lib.hid (HX2.out.trans hx3); have HRW3 := Lib.hid (HRW2.out.ext hx3); have HRB := Lib.hid hrw3; clear hx3 hrw3)
    | (go_at_call 16; refine (HSR.out _ _ _ _ _ _ _ HRW3.out HRB.out).mono ?_; rintro e w4 ⟨rfl, hx4⟩; have HX4 := Lib.hid (HX3.out.trans hx4); clear hx4)
    | (go_at_call 17; refine (HLV.out _ HX4.out).mono ?_; rintro e w5 ⟨rfl, hx5⟩))
  go_ret
  exact ⟨rfl, HX4.out.trans hx5⟩
end Go.Proofs.YtnpenepdechkjaaGreatDoor

/- The parser's errors have codes; the law of two sources. -/
namespace Go.Proofs.YtnpenepdechkjaaGreatDoor
open Go

theorem PR.bad_inv {α β : Type} {x : PR α} {f : α → List Tk → PR β} {r : List Tk} {e : Int} (h : x.bind f = .bad r e) : x = .bad r e ∨ ∃ a r1, x = .ok a r1 ∧ f a r1 = .bad r e := by
  cases x with
  | ok a r1 => exact .inr ⟨a, r1, rfl, h⟩
  | bad r1 e1 =>
    rw [PR.bind_bad] at h
    injection h with h1 h2
    exact .inl (by rw [h1, h2])
theorem must_nz {s : List UInt8} {r r1 : List Tk} {e : Int} (h : mustP s r = .bad r1 e) : e ≠ 0 := by
  unfold mustP at h
  split at h
  · cases h
  · injection h with _ h; rw [← h]; decide
theorem opens_nz {s : List UInt8} {o : Nat} {r r1 : List Tk} {e : Int} (h : opensP s o r = .bad r1 e) : e ≠ 0 := by
  unfold opensP at h
  split at h
  · split at h
    · injection h with _ h; rw [← h]; decide
    · cases h
  · injection h with _ h; rw [← h]; decide
theorem tok_nz {k : Int} {r r1 : List Tk} {e : Int} (h : tokP k r = .bad r1 e) : e ≠ 0 := by
  unfold tokP at h
  split at h
  · cases h
  · injection h with _ h; rw [← h]; decide
theorem name_nz {r r1 : List Tk} {e : Int} (h : nameP r = .bad r1 e) : e ≠ 0 := by
  unfold nameP at h
  split at h
  · injection h with _ h; rw [← h]; decide
  · rcases PR.bad_inv h with h | ⟨_, _, _, h⟩
    · exact tok_nz h
    · cases h
section
variable {E : Nat → Nat → List Tk → PR Tr} {n : Nat} (hS : ∀ lv o r t r', 1 ≤ lv → E lv o r = .ok t r' → tsz t + r'.length ≤ r.length) (h1 : ∀ o r r' e, r.length + 1 ≤ n → E 1 o r = .bad r' e → e ≠ 0)
include hS h1
theorem call_nz {o : Nat} {r r' : List Tk} {e : Int} (hn : r.length ≤ n) (h : callP E o r = .bad r' e) : e ≠ 0 := by
  unfold callP at h
  rcases PR.bad_inv h with h | ⟨t, r1, g1, h⟩
  · exact tok_nz h
  have s1 := tok_sz (by decide) g1
  rcases PR.bad_inv h with h | ⟨_, r2, g2, h⟩
  · exact opens_nz h
  have s2 := opens_sz (by decide) g2
  rcases PR.bad_inv h with h | ⟨a, r3, g3, h⟩
  · exact h1 _ _ _ _ (by omega) h
  have s3 := hS _ _ _ _ _ (Nat.le_refl _) g3
  split at h
  · rcases PR.bad_inv h with h | ⟨_, r4, g4, h⟩
    · exact must_nz h
    · cases h
  · rcases PR.bad_inv h with h | ⟨_, r4, g4, h⟩
    · exact must_nz h
    have s4 := must_sz (by decide) g4
    rcases PR.bad_inv h with h | ⟨b, r5, g5, h⟩
    · exact h1 _ _ _ _ (by omega) h
    rcases PR.bad_inv h with h | ⟨_, r6, g6, h⟩
    · exact must_nz h
    · cases h
theorem choice_nz {o : Nat} {r r' : List Tk} {e : Int} (hn : r.length ≤ n) (h : choiceP E o r = .bad r' e) : e ≠ 0 := by
  unfold choiceP at h
  rcases PR.bad_inv h with h | ⟨_, r1, g1, h⟩
  · exact opens_nz h
  have s1 := opens_sz (by decide) g1
  rcases PR.bad_inv h with h | ⟨a, r2, g2, h⟩
  · exact h1 _ _ _ _ (by omega) h
  have s2 := hS _ _ _ _ _ (Nat.le_refl _) g2
  rcases PR.bad_inv h with h | ⟨_, r3, g3, h⟩
  · exact must_nz h
  have s3 := must_sz (by decide) g3
  rcases PR.bad_inv h with h | ⟨b, r4, g4, h⟩
  · exact h1 _ _ _ _ (by omega) h
  have s4 := hS _ _ _ _ _ (Nat.le_refl _) g4
  rcases PR.bad_inv h with h | ⟨_, r5, g5, h⟩
  · exact must_nz h
  have s5 := must_sz (by decide) g5
  rcases PR.bad_inv h with h | ⟨c, r6, g6, h⟩
  · exact h1 _ _ _ _ (by omega) h
  rcases PR.bad_inv h with h | ⟨_, r7, g7, h⟩
  · exact must_nz h
  · cases h
theorem prim_nz {o : Nat} {r r' : List Tk} {e : Int} (hn : r.length ≤ n) (h : primP E o r = .bad r' e) : e ≠ 0 := by
  unfold primP at h
  split at h
  · cases h
  split at h
  · cases h
  split at h
  · cases h
  split at h
  · cases h
  split at h
  · rcases PR.bad_inv h with h | ⟨_, r1, g1, h⟩
    · exact opens_nz h
    have s1 := opens_sz (by decide) g1
    rcases PR.bad_inv h with h | ⟨a, r2, g2, h⟩
    · exact h1 _ _ _ _ (by omega) h
    rcases PR.bad_inv h with h | ⟨_, r3, g3, h⟩
    · exact must_nz h
    · cases h
  split at h
  · exact choice_nz hS h1 hn h
  split at h
  · exact call_nz hS h1 hn h
  split at h
  · cases h
  · injection h with _ h; rw [← h]; decide
end
theorem loop_nz {E : Nat → Nat → List Tk → PR Tr} {lv o : Nat} (hlv : 1 ≤ lv) (hS : ∀ r t r', E (lv + 1) o r = .ok t r' → tsz t + r'.length ≤ r.length) : ∀ (g : Nat) (t : Tr) (r r' : List Tk) (e : Int) (n : Nat), r.length ≤ n → (∀ r r' e, r.length + 1 ≤ n → E (lv + 1) o r = .bad r' e → e ≠ 0) → loopP E lv o g t r = .bad r' e → e ≠ 0
  | 0, t, r, r', e, n, hn, hE, h => by rw [loopP] at h; cases h
  | g + 1, t, r, r', e, n, hn, hE, h => by
    rw [loopP] at h
    split at h
    · rename_i hc
      have h5 := tail_lt (r := r) (fun e => by
        rw [e] at hc
        have : lvOf tkE.tx = 0 := by decide
        omega)
      rcases PR.bad_inv h with h | ⟨b, r2, g2, h⟩
      · exact hE _ _ _ (by omega) h
      have s2 := hS _ _ _ g2
      have h6 := join_sz lv (hd r).tx t b r2
      split at h
      · cases h
      · exact loop_nz hlv hS g _ _ _ _ n (by omega) hE h
    · cases h
theorem expr_nz : ∀ (f lv o : Nat) (r r' : List Tk) (e : Int), 1 ≤ lv → lv ≤ 8 → 9 * r.length + (8 - lv) < f → exprP f lv o r = .bad r' e → e ≠ 0
  | 0, _, _, _, _, _, _, _, h, _ => by omega
  | f + 1, lv, o, r, r', e, h1, h8, hf, h => by
    rw [exprP, stepP] at h
    split at h
    · rename_i hc
      rcases PR.bad_inv h with h | ⟨_, r1, g1, h⟩
      · exact opens_nz h
      have s1 := opens_sz (by rcases hc with ⟨_, hc⟩ | ⟨_, hc⟩ <;> rw [hc] <;> decide) g1
      rcases PR.bad_inv h with h | ⟨n, r2, g2, h⟩
      · exact expr_nz f _ _ _ _ _ h1 h8 (by omega) h
      · cases h
    split at h
    · exact prim_nz (n := r.length) (fun lv o r t r' hl h => expr_sz f lv o r t r' hl h) (fun o r2 r' e hr h => expr_nz f 1 o r2 r' e (Nat.le_refl _) (by omega) (by omega) h) (Nat.le_refl _) h
    · rename_i hc8
      rcases PR.bad_inv h with h | ⟨n, r2, g2, h⟩
      · exact expr_nz f _ _ _ _ _ (by omega) (by omega) (by omega) h
      have s2 := expr_sz f _ _ _ _ _ (by omega) g2
      exact loop_nz h1 (fun r t r' h => expr_sz f (lv + 1) o r t r' (by omega) h) _ _ _ _ _ r.length (by omega) (fun r3 r' e hr h => expr_nz f (lv + 1) o r3 r' e (by omega) (by omega) (by omega) h) h
theorem rule_nz {E : List Tk → PR Tr} (hS : ∀ r t r', E r = .ok t r' → tsz t + r'.length ≤ r.length) {n : Nat} (hE : ∀ r r' e, r.length ≤ n → E r = .bad r' e → e ≠ 0) {r r' : List Tk} {e : Int} (hn : r.length ≤ n) (h : ruleP E r = .bad r' e) : e ≠ 0 := by
  have hle : ∀ {w : List UInt8} {r r1 : List Tk} {u : Unit}, mustP w r = .ok u r1 → r1.length ≤ r.length := fun {w r r1 u} h => by
    unfold mustP at h
    split at h
    · obtain ⟨_, rfl⟩ := PR.ok_inj h; simp
    · cases h
  have hnm : ∀ {r r1 : List Tk} {u : List UInt8}, nameP r = .ok u r1 → r1.length ≤ r.length := fun {r r1 u} h => by
    unfold nameP at h
    split at h
    · cases h
    · obtain ⟨t, r2, h1, h2⟩ := PR.bind_inv h
      have := tok_sz (by decide) h1
      obtain ⟨_, rfl⟩ := PR.ok_inj h2
      omega
  have hpn : ∀ {w : List UInt8} {r r1 : List Tk} {e : Int}, partP w [] nameP r = .bad r1 e → e ≠ 0 := fun {w r r1 e} h => by
    unfold partP at h
    split at h
    · rcases PR.bad_inv h with h | ⟨_, _, _, h⟩
      · exact name_nz h
      rcases PR.bad_inv h with h | ⟨_, _, _, h⟩
      · exact must_nz h
      · cases h
    · cases h
  have hpe : ∀ {w : List UInt8} {r r1 : List Tk} {e : Int}, r.length ≤ n → partP w trTrue E r = .bad r1 e → e ≠ 0 := fun {w r r1 e} hn h => by
    unfold partP at h
    split at h
    · rcases PR.bad_inv h with h | ⟨_, _, _, h⟩
      · exact hE _ _ _ (by simp; omega) h
      rcases PR.bad_inv h with h | ⟨_, _, _, h⟩
      · exact must_nz h
      · cases h
    · cases h
  have hpl : ∀ {w : List UInt8} {r r1 : List Tk} {u : Tr}, partP w trTrue E r = .ok u r1 → r1.length ≤ r.length := fun {w r r1 u} h => by
    unfold partP at h
    split at h
    · obtain ⟨a, r2, h1, h2⟩ := PR.bind_inv h
      obtain ⟨_, r3, h3, h4⟩ := PR.bind_inv h2
      have := hS _ _ _ h1
      have := hle h3
      obtain ⟨rfl, rfl⟩ := PR.ok_inj h4
      simp only [List.length_tail] at *; omega
    · obtain ⟨rfl, rfl⟩ := PR.ok_inj h
      exact Nat.le_refl _
  unfold ruleP at h
  rcases PR.bad_inv h with h | ⟨_, r1, g1, h⟩
  · exact must_nz h
  rcases PR.bad_inv h with h | ⟨_, r2, g2, h⟩
  · exact name_nz h
  rcases PR.bad_inv h with h | ⟨_, r3, g3, h⟩
  · exact must_nz h
  rcases PR.bad_inv h with h | ⟨_, r4, g4, h⟩
  · exact tok_nz h
  rcases PR.bad_inv h with h | ⟨_, r5, g5, h⟩
  · exact must_nz h
  rcases PR.bad_inv h with h | ⟨_, r6, g6, h⟩
  · exact must_nz h
  rcases PR.bad_inv h with h | ⟨_, r7, g7, h⟩
  · exact name_nz h
  rcases PR.bad_inv h with h | ⟨_, r8, g8, h⟩
  · exact must_nz h
  have s1 := hle g1
  have s2 := hnm g2
  have s3 := hle g3
  have s4 := tok_sz (by decide) g4
  have s5 := hle g5
  have s6 := hle g6
  have s7 := hnm g7
  have s8 := hle g8
  rcases PR.bad_inv h with h | ⟨_, r9, g9, h⟩
  · exact hpe (by omega) h
  have s9 := hpl g9
  rcases PR.bad_inv h with h | ⟨_, r10, g10, h⟩
  · exact must_nz h
  have s10 := hle g10
  rcases PR.bad_inv h with h | ⟨_, r11, g11, h⟩
  · exact hE _ _ _ (by omega) h
  rcases PR.bad_inv h with h | ⟨_, r12, g12, h⟩
  · exact must_nz h
  rcases PR.bad_inv h with h | ⟨_, r13, g13, h⟩
  · exact hpn h
  rcases PR.bad_inv h with h | ⟨_, r14, g14, h⟩
  · exact hpn h
  rcases PR.bad_inv h with h | ⟨_, r15, g15, h⟩
  · exact must_nz h
  · cases h
theorem rules_nz {E : List Tk → PR Tr} (hS : ∀ r t r', E r = .ok t r' → tsz t + r'.length ≤ r.length) {n : Nat} (hE : ∀ r r' e, r.length ≤ n → E r = .bad r' e → e ≠ 0) : ∀ (g : Nat) (l : List Rl) (r r' : List Tk) (e : Int), r.length ≤ n → rulesP E g l r = .bad r' e → e ≠ 0
  | 0, l, r, r', e, _, h => by rw [rulesP] at h; cases h
  | g + 1, l, r, r', e, hn, h => by
    rw [rulesP] at h
    split at h
    · cases h
    · rcases PR.bad_inv h with h | ⟨x, r2, h1, h⟩
      · exact rule_nz hS hE hn h
      · have := (rule_sz hS h1).2.2
        exact rules_nz hS hE g _ _ _ _ (by omega) h
theorem EX_nz (r r' : List Tk) (e : Int) (hr : r.length ≤ 4400) (h : EX r = .bad r' e) : e ≠ 0 := expr_nz 40000 1 0 r r' e (Nat.le_refl _) (by omega) (by omega) h
/-- A source that is parsed. -/
theorem parseR_ok {s : List UInt8} (h : (parseR s).2.2 = 0) : (lexT s).e = 0 ∧ ∃ v r, RP EX [] (lexT s).l = .ok v r ∧ (hd r).kd = 0 ∧ parseR s = (v, 0, 0) := by
  unfold parseR parseG at h ⊢
  by_cases he : (lexT s).e = 0
  · rw [if_pos he] at h ⊢
    refine ⟨he, ?_⟩
    obtain ⟨_, h2, _⟩ := lexT_ok he
    cases hr : RP EX [] (lexT s).l with
    | bad r e =>
      rw [hr] at h
      exact absurd h (rules_nz EX_sz (n := 4400) EX_nz _ _ _ _ _ (by omega) hr)
    | ok v r =>
      rw [hr] at h
      simp only at h ⊢
      by_cases hk : (hd r).kd = 0
      · exact ⟨v, r, rfl, hk, by rw [if_pos hk]⟩
      · rw [if_neg hk] at h; simp at h
  · rw [if_neg he] at h
    exact absurd h he
/-- Rules behind rules. -/
theorem RP_cat : ∀ (m : Nat) (acc : List Rl) (ts : List Tk) (k : Nat) (v : List Rl) (r : List Tk), ts.length ≤ m → (∀ t ∈ ts, NE t ∧ t.kd ≠ 0) → RP EX acc (ts ++ [endT k]) = .ok v r → (hd r).kd = 0 →
    ∀ (ts' tb : List Tk), ts'.map tri = ts.map tri → RP EX acc (ts' ++ tb) = RP EX v tb := by
  intro m
  induction m with
  | zero =>
    intro acc ts k v r hm hts h hk ts' tb hmap
    obtain rfl : ts = [] := List.length_eq_zero_iff.1 (by omega)
    rw [map_nil hmap, List.nil_append]
    rw [List.nil_append, RP_eq loc_EX, if_pos (show (hd [endT k]).kd = 0 from rfl)] at h
    obtain ⟨rfl, _⟩ := PR.ok_inj h
    rfl
  | succ m ih =>
    intro acc ts k v r hm hts h hk ts' tb hmap
    cases ts with
    | nil =>
      rw [map_nil hmap, List.nil_append]
      rw [List.nil_append, RP_eq loc_EX, if_pos (show (hd [endT k]).kd = 0 from rfl)] at h
      obtain ⟨rfl, _⟩ := PR.ok_inj h
      rfl
    | cons t0 ts0 =>
      have hk0 : t0.kd ≠ 0 := (hts t0 (List.mem_cons_self ..)).2
      rw [RP_eq loc_EX, if_neg (show ¬ (hd (t0 :: ts0 ++ [endT k])).kd = 0 from hk0)] at h
      obtain ⟨x, r2, h1, h2⟩ := PR.bind_inv h
      obtain ⟨pre, p1, p2, p3, p4⟩ := locS_rule (m := (t0 :: ts0 ++ [endT k]).length) loc_EX _ _ _ (Nat.le_refl _) h1
      -- what has been read lies within ts
      have hpre : ∃ s, t0 :: ts0 = pre ++ s ∧ r2 = s ++ [endT k] := by
        rcases List.append_eq_append_iff.1 p1 with ⟨a, ha, hb⟩ | ⟨c, hc, hd⟩
        · cases a with
          | nil => exact ⟨[], by simpa using ha.symm, by simpa using hb.symm⟩
          | cons a0 a1 =>
            exfalso
            have : a0 = endT k := by
              have := congrArg List.head? hb
              simpa using this.symm
            have hm : endT k ∈ pre := by rw [ha, ← this]; simp
            rcases p3 _ hm with h9 | h9
            · exact h9 rfl
            · exact h9 rfl
        · exact ⟨c, hc, hd⟩
      obtain ⟨s, hs1, hs2⟩ := hpre
      have hlen := congrArg List.length hs1
      rw [List.length_append] at hlen
      have hpl := List.length_pos_iff.2 p2
      rw [hs1, List.map_append] at hmap
      obtain ⟨y, z, rfl, hy, hz⟩ := List.map_eq_append_iff.1 hmap
      have hne : (hd (y ++ z ++ tb)).kd ≠ 0 := by
        cases y with
        | nil =>
          exfalso
          have : pre = [] := by simpa using hy.symm
          exact p2 this
        | cons y0 y1 =>
          cases pre with
          | nil => exact absurd rfl p2
          | cons q0 q1 =>
            simp only [List.map_cons, List.cons.injEq] at hy
            simp only [List.cons_append, List.cons.injEq] at hs1
            have e1 : y0.kd = q0.kd := congrArg (fun x => x.1) hy.1
            show y0.kd ≠ 0
            rw [e1, ← hs1.1]; exact hk0
      rw [RP_eq loc_EX, if_neg hne, List.append_assoc, p4 y (z ++ tb) hy, PR.bind_ok]
      rw [hs2] at h2
      exact ih (acc ++ [x]) s k v r (by simp only [List.length_cons] at hm hlen; omega) (fun t ht => hts t (by rw [hs1]; exact List.mem_append.2 (.inr ht))) h2 hk z tb hz
/-- The accumulator goes ahead. -/
theorem rules_acc (E : List Tk → PR Tr) : ∀ (g : Nat) (l : List Rl) (r : List Tk) (v : List Rl) (r' : List Tk), rulesP E g [] r = .ok v r' → rulesP E g l r = .ok (l ++ v) r'
  | 0, l, r, v, r', h => by
    rw [rulesP] at h ⊢
    obtain ⟨rfl, rfl⟩ := PR.ok_inj h
    rw [List.append_nil]
  | g + 1, l, r, v, r', h => by
    rw [rulesP] at h ⊢
    split at h
    · rename_i hk
      rw [if_pos hk]
      obtain ⟨rfl, rfl⟩ := PR.ok_inj h
      rw [List.append_nil]
    · rename_i hk
      rw [if_neg hk]
      obtain ⟨x, r2, h1, h2⟩ := PR.bind_inv h
      rw [h1, PR.bind_ok]
      have key : ∀ (g : Nat) (a b : List Rl) (r : List Tk) (v : List Rl) (r' : List Tk), rulesP E g b r = .ok v r' → rulesP E g (a ++ b) r = .ok (a ++ v) r' := by
        intro g
        induction g with
        | zero =>
          intro a b r v r' h
          rw [rulesP] at h ⊢
          obtain ⟨rfl, rfl⟩ := PR.ok_inj h
          rfl
        | succ g ih =>
          intro a b r v r' h
          rw [rulesP] at h ⊢
          split at h
          · rename_i hk
            rw [if_pos hk]
            obtain ⟨rfl, rfl⟩ := PR.ok_inj h
            rfl
          · rename_i hk
            rw [if_neg hk]
            obtain ⟨x, r2, h1, h2⟩ := PR.bind_inv h
            rw [h1, PR.bind_ok, List.append_assoc]
            exact ih a (b ++ [x]) r2 v r' h2
      exact key g l ([] ++ [x]) r2 v r' h2
/-- The law of two sources. -/
theorem concat_R {a b : List UInt8} (ha : (parseR a).2.2 = 0) (hb : (parseR b).2.2 = 0) (hl : a.length + b.length + 1 ≤ 4000) : (parseR (a ++ 10 :: b)).2.2 = 0 ∧ (parseR (a ++ 10 :: b)).1 = (parseR a).1 ++ (parseR b).1 := by
  obtain ⟨ea, va, ra, hra, hka, hpa⟩ := parseR_ok ha
  obtain ⟨eb, vb, rb, hrb, hkb, hpb⟩ := parseR_ok hb
  obtain ⟨_, _, _, _, la, _⟩ := lexT_ok ea
  obtain ⟨_, _, _, _, lb, _⟩ := lexT_ok eb
  rw [la] at ea hra
  rw [lb] at eb hrb
  have lz : lexT (a ++ 10 :: b) = lexW 0 (a ++ 10 :: b) := by rw [lexT, if_neg (by simp; omega)]
  obtain ⟨ez, l, hl1, hl2⟩ := (concat_law a b).2 ea eb
  obtain ⟨_, ts, ht1, ht2⟩ := lex_toks a.length a (Nat.le_refl _) 0 ea
  have hlts : l = ts := by
    rw [hl1] at ht1
    exact (List.append_inj' ht1 rfl).1
  subst hlts
  rw [hl1] at hra
  rw [List.map_append] at hl2
  obtain ⟨x, y, hxy, hx, hy⟩ := List.map_eq_append_iff.1 hl2
  have h1 := RP_cat l.length [] l a.length va ra (Nat.le_refl _) (fun t ht => ⟨.inr (ht2 t ht).2.1, (ht2 t ht).2.1⟩) hra hka x y hx
  obtain ⟨r', h2, h3⟩ := loc_RP [] hy
  rw [hrb] at h2 h3
  have h4 : RP EX va y = .ok (va ++ vb) r' := rules_acc EX y.length va y vb r' h2
  have hk' : (hd r').kd = 0 := by
    have h3' : r'.map tri = rb.map tri := h3
    cases rb with
    | nil =>
      have : r' = [] := by simpa using h3'
      rw [this]; rfl
    | cons p q =>
      cases r' with
      | nil => rfl
      | cons p' q' =>
        simp only [List.map_cons, List.cons.injEq] at h3'
        have e1 : p'.kd = p.kd := congrArg (fun x => x.1) h3'.1
        show p'.kd = 0
        rw [e1]; exact hkb
  have h5 : parseR (a ++ 10 :: b) = (va ++ vb, 0, 0) := by
    unfold parseR parseG
    rw [lz, if_pos ez, hxy, h1, h4]
    simp only
    rw [if_pos hk']
  rw [h5, hpa, hpb]
  exact ⟨rfl, rfl⟩
end Go.Proofs.YtnpenepdechkjaaGreatDoor
