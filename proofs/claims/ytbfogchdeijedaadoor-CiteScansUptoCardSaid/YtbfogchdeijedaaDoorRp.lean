/- The contract of the reference's Parse. -/
import Derived.Test.YtbfogchdeijedaaDoorRLw
import Derived.Test.YtbfogchdeijedaaDoorRParts
namespace Go.Proofs.YtbfogchdeijedaaDoor
open Go Go.RowKit

theorem numI_neg {l : List UInt8} (h : numP l = none) : numI l = -1 := by unfold numI; rw [h]
theorem numI_some {l : List UInt8} {n : Nat} (h : numP l = some n) : numI l = (n : Int) := by unfold numI; rw [h]
def LitRel2 (w1 : World) (v x : Int) (s5 : Value) (wx : World) : Prop := ∃ (b : Nat), s5 = .pointer (some ⟨b, 0, none⟩) ∧ w1.heap.size ≤ b ∧ Box wx b v 0 0 x ∧ Ext w1 wx
set_option maxHeartbeats 4000000 in
set_option maxRecDepth 100000 in
theorem rparse_any (s : ByteArray) (w : World) (hs : s.size ≤ 4000000) : Calls Tryd.prog 13 #[.string s] w (CPost (parseP s.data.toList) w) := by
  have HPA := Lib.hid (fun W => rparts_any s W hs)
  go_enter Tryd.func13, Tryd.ntmps13
  go_upto_region 2 with (first | (go_at_call 29; refine (HPA.out _).mono ?_; rintro e w1 ⟨out, A, c, rfl, hbl, hsl, hx⟩))
  have HR0 := Lib.hid ((Box.new w 0 0 0 0 25).ext hx)
  have HX1 := Lib.hid (((Ext.refl w).alloc _).trans hx)
  have HBL := Lib.hid hbl
  have HSL := Lib.hid hsl
  clear hbl hsl hx
  by_cases h3 : out.length = 3
  · obtain ⟨b0, b1, b2, rfl⟩ : ∃ a b c, out = [a, b, c] := by
      match out, h3 with
      | [a, b, c], _ => exact ⟨a, b, c, rfl⟩
    clear h3
    obtain ⟨g, off, a0, rfl, hg, e0, _, hc0⟩ := SL.at HSL.out (k := 0) (by simp)
    obtain rfl : b0 = a0 := by simpa using e0
    obtain ⟨g1, off1, a1, eA, hg1, e1, _, hc1⟩ := SL.at HSL.out (k := 1) (by simp)
    injection eA with eA; injection eA with eA1 eA2; subst eA1 eA2
    obtain rfl : b1 = a1 := by simpa using e1
    obtain ⟨g2, off2, a2, eA, hg2, e2, _, hc2⟩ := SL.at HSL.out (k := 2) (by simp)
    injection eA with eA; injection eA with eA1 eA2; subst eA1 eA2
    obtain rfl : b2 = a2 := by simpa using e2
    have k0 := hc0 0 (.string b0) rfl
    have k1 := hc1 0 (.string b1) rfl
    have k2 := hc2 0 (.string b2) rfl
    simp only [Nat.mul_one, Nat.add_zero] at k0 k1 k2
    have hpp : parseP s.data.toList = read3 b0.data.toList b1.data.toList b2.data.toList := by
      unfold parseP; rw [← HBL.out]; rfl
    have HPP := Lib.hid hpp
    have hjn := parts_join s.data.toList b0.data.toList b1.data.toList b2.data.toList (by rw [← HBL.out]; rfl)
    have hjl := congrArg List.length hjn
    simp only [List.length_append, List.length_cons, list_size] at hjl
    have hz0 : b0.size ≤ 281474976710656 := by omega
    have hz1 : b1.size ≤ 281474976710656 := by omega
    have hz2 : b2.size ≤ 281474976710656 := by omega
    have HL := Lib.hid (fun W => rlabp_any b1 W hz1)
    clear hc0 hc1 hc2 e0 e1 e2 hpp hjn hjl
    go_upto_region 4 with (fail)
    go_cut [5] (fun s5 wx => LitRel2 w1 (numI b0.data.toList) (numI b2.data.toList) s5 wx)
    case first =>
      go_region_held3 (fun W => W.cell? ⟨g, off, none⟩ = some (.string b0) ∧ W.cell? ⟨g, off + 2, none⟩ = some (.string b2)) (go_keep)
        (first | (go_at_call 30; refine (rnum_any _ _ ?_).mono ?_; (first | exact hz0 | exact hz2); rintro e w' ⟨rfl, rfl⟩))
      all_goals
        go_wp2_with fail
        go_meet
        case rel =>
          exact ⟨w1.heap.size, rfl, Nat.le_refl _, (Box.new w1 _ _ _ _ 25).ext ((Ext.refl _).drew), ((Ext.refl w1).alloc _).drew⟩
    case rest =>
      obtain ⟨b, rfl, hbl, hbox, hxs⟩ := hcut
      have HXS := Lib.hid hxs
      have HRC := Lib.hid (HR0.out.ext hxs)
      have HBX := Lib.hid hbox
      obtain ⟨q, qf⟩ := hxs.cells
      have k1c := (q _ (off + 1) hg).trans k1
      have hlt : w.heap.size < w1.heap.size := HR0.out.lt
      have hbne : b ≠ w.heap.size := by omega
      obtain ⟨y9, y0, y1, y2, y3, f0, f1, f2, f3⟩ := HRC.out
      obtain ⟨u9, u0, u1, u2, u3, v0, v1, v2, v3⟩ := hbox
      clear q qf hxs k0 k1 k2
      cases hn0 : numP b0.data.toList with
      | none =>
        have HF := Lib.hid (show parseP s.data.toList = (ct0, 7) by rw [HPP.out, read3_b hn0])
        rw [numI_neg hn0] at u0
        clear hn0
        go_wp2_with fail
        refine bodyPost_ret (v := .tuple #[.agg #[.int .i64 0, .int .i64 0, .int .i64 0, .int .i64 0], .int .i64 7]) (by simp [results, Tryd.results13, go_sem, *]) rfl ?_
        exact ⟨by rw [HF.out]; rfl, by repeat (first | exact HX1.out.trans HXS.out | refine Ext.setCell ?_ (Nat.le_refl _) _)⟩
      | some n0 =>
        cases hn2 : numP b2.data.toList with
        | none =>
          have HF := Lib.hid (show parseP s.data.toList = (ct0, 7) by rw [HPP.out, read3_x hn2])
          rw [numI_some hn0] at u0
          rw [numI_neg hn2] at u3
          have hnn : ¬ (n0 : Int) < 0 := by omega
          clear hn0 hn2
          go_wp2_with fail
          refine bodyPost_ret (v := .tuple #[.agg #[.int .i64 0, .int .i64 0, .int .i64 0, .int .i64 0], .int .i64 7]) (by simp [results, Tryd.results13, go_sem, *]) rfl ?_
          exact ⟨by rw [HF.out]; rfl, by repeat (first | exact HX1.out.trans HXS.out | refine Ext.setCell ?_ (Nat.le_refl _) _)⟩
        | some n2 =>
          rw [numI_some hn0] at u0
          rw [numI_some hn2] at u3
          have hnn : ¬ (n0 : Int) < 0 := by omega
          have hnn2 : ¬ (n2 : Int) < 0 := by omega
          have hbx2 := HBX.out
          rw [numI_some hn0, numI_some hn2] at hbx2
          have HB2 := Lib.hid hbx2
          clear hbx2
          have HLx : ∀ (a0 s0 e0 : Int), labR (labP b1.data.toList) = (a0, s0, e0) → ∀ W, Calls Tryd.prog 31 #[.string b1] W (fun e W' => e = .returned (.tuple #[.agg #[.int .i64 a0, .int .i64 s0], .int .i64 e0]) ∧ Ext W W') := fun a0 s0 e0 h W => by
            have := HL.out W; rw [h] at this; exact this
          cases hm : labP b1.data.toList with
          | none =>
            have HF := Lib.hid (show parseP s.data.toList = (ct0, 7) by rw [HPP.out, read3_m hm])
            have HC := Lib.hid (HLx 0 0 7 (by rw [hm]; rfl))
            clear hm hn0 hn2 HLx HL
            go_wp2_with (first | (go_at_call 31; refine (HC.out _).mono ?_; rintro e w5 ⟨rfl, hx5⟩; obtain ⟨y9, y0, y1, y2, y3, f0, f1, f2, f3⟩ := HRC.out.ext hx5))
            refine bodyPost_ret (v := .tuple #[.agg #[.int .i64 0, .int .i64 0, .int .i64 0, .int .i64 0], .int .i64 7]) (by simp [results, Tryd.results13, go_sem, *]) rfl ?_
            exact ⟨by rw [HF.out]; rfl, by repeat (first | exact (HX1.out.trans HXS.out).trans hx5 | refine Ext.alloc ?_ _ | refine Ext.setCell ?_ (Nat.le_refl _) _)⟩
          | some ns =>
            obtain ⟨nn, su⟩ := ns
            have hR := read3_ok hn0 hn2 hm
            cases hlb : labB nn su with
            | false =>
              have HF := Lib.hid (show parseP s.data.toList = (ct0, 5) by
                rw [HPP.out, hR, if_neg]
                rw [citB_no (.inr (.inr (.inr (.inr hlb))))]; simp)
              have HC := Lib.hid (HLx 0 0 5 (by rw [hm]; unfold labR; simp only [hlb]; rfl))
              clear hm hn0 hn2 HLx HL hR hlb
              go_wp2_with (first | (go_at_call 31; refine (HC.out _).mono ?_; rintro e w5 ⟨rfl, hx5⟩; obtain ⟨y9, y0, y1, y2, y3, f0, f1, f2, f3⟩ := HRC.out.ext hx5))
              refine bodyPost_ret (v := .tuple #[.agg #[.int .i64 0, .int .i64 0, .int .i64 0, .int .i64 0], .int .i64 5]) (by simp [results, Tryd.results13, go_sem, *]) rfl ?_
              exact ⟨by rw [HF.out]; rfl, by repeat (first | exact (HX1.out.trans HXS.out).trans hx5 | refine Ext.alloc ?_ _ | refine Ext.setCell ?_ (Nat.le_refl _) _)⟩
            | true =>
              have HC := Lib.hid (HLx nn su 0 (by rw [hm]; unfold labR; simp only [hlb]; rfl))
              have hble : w.heap.size ≤ b := by omega
              cases hcb : citB (mkCt n0 nn su n2) with
              | false =>
                have HF := Lib.hid (show parseP s.data.toList = (ct0, 5) by rw [HPP.out, hR, hcb]; rfl)
                have HVa := Lib.hid (fun W => (show Calls Tryd.prog 20 #[.agg #[.int .i64 n0, .int .i64 nn, .int .i64 su, .int .i64 n2]] W (BoolPost false W) from hcb ▸ rvalid_any (mkCt n0 nn su n2) W))
                clear hm hn0 hn2 HLx HL hR hlb hcb
                go_wp2_with (first | (go_at_call 31; refine (HC.out _).mono ?_; rintro e w5 ⟨rfl, hx5⟩; obtain ⟨y9, y0, y1, y2, y3, f0, f1, f2, f3⟩ := HRC.out.ext hx5; obtain ⟨u9, u0, u1, u2, u3, v0, v1, v2, v3⟩ := HB2.out.ext hx5) | (go_at_call 20; refine (HVa.out _).mono ?_; rintro e w6 ⟨rfl, hx6⟩; (first | (have hr6 := ((((HRC.out.ext hx5).other hbne _).other hbne _).ext ((Ext.refl _).alloc _)).ext hx6) | (have hr6 := ((((HRC.out.ext hx5).ext ((Ext.refl _).alloc _)).other hbne _).other hbne _).ext hx6)); have HX6 := Lib.hid hx6; clear hx6; obtain ⟨r9, r0, r1, r2, r3, t0, t1, t2, t3⟩ := hr6))
                refine bodyPost_ret (v := .tuple #[.agg #[.int .i64 0, .int .i64 0, .int .i64 0, .int .i64 0], .int .i64 5]) (by simp [results, Tryd.results13, go_sem, *]) rfl ?_
                exact ⟨by rw [HF.out]; rfl, by
                  iterate 4 (refine Ext.setCell ?_ (Nat.le_refl _) _)
                  refine Ext.trans ?_ HX6.out
                  repeat (first | exact (HX1.out.trans HXS.out).trans hx5 | refine Ext.alloc ?_ _ | refine Ext.setCell ?_ hble _)⟩
              | true =>
                have HF := Lib.hid (show parseP s.data.toList = (mkCt n0 nn su n2, 0) by rw [HPP.out, hR, hcb]; rfl)
                have HVa := Lib.hid (fun W => (show Calls Tryd.prog 20 #[.agg #[.int .i64 n0, .int .i64 nn, .int .i64 su, .int .i64 n2]] W (BoolPost true W) from hcb ▸ rvalid_any (mkCt n0 nn su n2) W))
                clear hm hn0 hn2 HLx HL hR hlb hcb
                go_wp2_with (first | (go_at_call 31; refine (HC.out _).mono ?_; rintro e w5 ⟨rfl, hx5⟩; obtain ⟨y9, y0, y1, y2, y3, f0, f1, f2, f3⟩ := HRC.out.ext hx5; obtain ⟨u9, u0, u1, u2, u3, v0, v1, v2, v3⟩ := HB2.out.ext hx5) | (go_at_call 20; refine (HVa.out _).mono ?_; rintro e w6 ⟨rfl, hx6⟩; (first | (have hc6 := ((((HB2.out.ext hx5).set1 nn).set2 su).ext ((Ext.refl _).alloc _)).ext hx6; have hr6 := ((((HRC.out.ext hx5).other hbne _).other hbne _).ext ((Ext.refl _).alloc _)).ext hx6) | (have hc6 := ((((HB2.out.ext hx5).ext ((Ext.refl _).alloc _)).set1 nn).set2 su).ext hx6; have hr6 := ((((HRC.out.ext hx5).ext ((Ext.refl _).alloc _)).other hbne _).other hbne _).ext hx6)); have HX6 := Lib.hid hx6; clear hx6; obtain ⟨p9, p0, p1, p2, p3, q0, q1, q2, q3⟩ := hc6; obtain ⟨r9, r0, r1, r2, r3, t0, t1, t2, t3⟩ := hr6))
                refine bodyPost_ret (v := .tuple #[.agg #[.int .i64 n0, .int .i64 nn, .int .i64 su, .int .i64 n2], .int .i64 0]) (by simp [results, Tryd.results13, go_sem, *]) rfl ?_
                exact ⟨by rw [HF.out]; rfl, by
                  iterate 4 (refine Ext.setCell ?_ (Nat.le_refl _) _)
                  refine Ext.trans ?_ HX6.out
                  repeat (first | exact (HX1.out.trans HXS.out).trans hx5 | refine Ext.alloc ?_ _ | refine Ext.setCell ?_ hble _)⟩
  · have HF := Lib.hid (show parseP s.data.toList = (ct0, 7) by
      unfold parseP
      rw [← HBL.out]
      match out, h3 with
      | [], _ => rfl
      | [_], _ => rfl
      | [_, _], _ => rfl
      | [_, _, _], h => exact absurd rfl h
      | _ :: _ :: _ :: _ :: _, _ => rfl)
    have hne : ((out.length : Int) == 3) = false := by simpa using (show ¬ (out.length : Int) = 3 by omega)
    obtain ⟨y9, y0, y1, y2, y3, f0, f1, f2, f3⟩ := HR0.out
    clear h3
    go_wp2_with fail
    refine bodyPost_ret (v := .tuple #[.agg #[.int .i64 0, .int .i64 0, .int .i64 0, .int .i64 0], .int .i64 7]) (by simp [results, Tryd.results13, go_sem, *]) rfl ?_
    exact ⟨by rw [HF.out]; rfl, by repeat (first | exact HX1.out | refine Ext.setCell ?_ (Nat.le_refl _) _)⟩
end Go.Proofs.YtbfogchdeijedaaDoor
