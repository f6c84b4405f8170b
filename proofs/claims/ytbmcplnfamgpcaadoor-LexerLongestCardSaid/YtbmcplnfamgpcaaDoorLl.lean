/- The walk of the law LexerLongest. -/
import Derived.Test.YtbmcplnfamgpcaaDoorLc
import Derived.Test.YtbmcplnfamgpcaaDoorPlain6
namespace Go.Proofs.YtbmcplnfamgpcaaDoor
open Go Go.RowKit

def LgRel (n : Nat) (s6 : Value) : Prop := ∃ i : Nat, 1 ≤ i ∧ i ≤ n + 1 ∧ s6 = .int .i64 i
theorem bytes_eq (x : List UInt8) (l : List UInt8) : ((⟨x.toArray⟩ : ByteArray).toList == l) = decide (x = l) := by
  rw [ByteArray.toList_eq]
  show (x == l) = _
  by_cases h : x = l <;> simp [h]
set_option maxHeartbeats 8000000 in
set_option maxRecDepth 100000 in
theorem lawLongest_any (s : ByteArray) (w : World) (hs : s.size ≤ 281474976710656) (hE : EnvT w) : Calls Tryd.prog 11 #[.string s] w (BoolPost true w) := by
  have HSH := Lib.hid (fun X => short_any s 4000 X hs (by omega))
  have HLC := Lib.hid (lexk w hE)
  have HLV := Lib.hid (fun Y (hY : Ext w Y) => lives_any Y (hE.ext hY))
  clear hE
  go_enter Tryd.func11, Tryd.ntmps11
  go_upto_region 2 with (first | (go_at_call 13; refine (HSH.out _).mono ?_; rintro e w1 ⟨X, hX, HX, rfl, rfl⟩; obtain ⟨L, o, x, hr, hL⟩ := lexW_parts X.data.toList (by rw [list_size]; omega); have H1 := Lib.hid (HLC.out X (by omega) L o x hr); have HR := Lib.hid hr; clear hr) | (go_at_call 14; refine (H1.out _ (Ext.refl _)).mono ?_; rintro e w1 ⟨A1, c1, rfl, HL1, hx1⟩))
  by_cases hx0 : x = 0
  · subst hx0
    have hap := lex_apart _ X.data.toList (Nat.le_refl _) 0 (by rw [HR.out])
    have hat := lex_at _ X.data.toList (Nat.le_refl _) 0
    rw [HR.out] at hap hat
    simp only at hap hat
    rw [list_size] at hat
    have HAP := Lib.hid hap
    have HAT := Lib.hid hat
    obtain ⟨n, hn⟩ : ∃ n, n = L.length := ⟨_, rfl⟩
    rw [← hn] at HL1 hL ⊢
    clear hap hat hn
    go_upto_region 5 with (fail)
    go_loopw [6] (fun s6 w' => LgRel n s6 ∧ Ext w1 w') (fun s6 _ => tokM' (n + 1) s6)
    case atStart => exact ⟨⟨1, by omega, by omega, rfl⟩, Ext.refl _⟩
    case round =>
      obtain ⟨⟨i, h1, hi, rfl⟩, hxr⟩ := hrel
      have HXR := Lib.hid hxr
      clear hxr
      by_cases hin : i < n
      · obtain ⟨j, rfl⟩ : ∃ j, i = j + 1 := ⟨i - 1, by omega⟩
        obtain ⟨b1, o1, a, e1, hb1, ha, p0, p1, p2, p3⟩ := (HL1.out.ext HXR.out).tok (k := j) (by omega)
        obtain ⟨b2, o2, b, e2, hb2, hb, q0, q1, q2, q3⟩ := (HL1.out.ext HXR.out).tok (k := j + 1) hin
        rw [e1] at e2
        injection e2 with e2
        injection e2 with e2 e3
        subst e2 e3
        subst e1
        obtain ⟨pa, hpa, _, hpa2⟩ := HAT.out a (List.mem_of_getElem? ha)
        obtain ⟨pb, hpb, _, hpb2⟩ := HAT.out b (List.mem_of_getElem? hb)
        have hap := HAP.out j a b ha hb
        obtain ⟨ka, aa, xa, na⟩ := a
        obtain ⟨kb, ab, xb, nb⟩ := b
        simp only at hpa hpb hap hpa2 hpb2 p0 p1 p2 p3 q0 q1 q2 q3
        subst hpa hpb
        have hsa : (⟨xa.toArray⟩ : ByteArray).size = xa.length := rfl
        have ta : ∀ l, ((⟨xa.toArray⟩ : ByteArray).toList == l) = decide (xa = l) := bytes_eq xa
        have tb : ∀ l, ((⟨xb.toArray⟩ : ByteArray).toList == l) = decide (xb = l) := bytes_eq xb
        obtain ⟨XA, hXA⟩ : ∃ S : ByteArray, S = ⟨xa.toArray⟩ := ⟨_, rfl⟩
        obtain ⟨XB, hXB⟩ : ∃ S : ByteArray, S = ⟨xb.toArray⟩ := ⟨_, rfl⟩
        rw [← hXA] at p2 hsa ta
        rw [← hXB] at q2 tb
        clear hXA hXB ha hb
        have hj4 : (j : Int) ≤ 5000 := by omega
        have hp4 : pa + XA.size ≤ 4000 := by omega
        have hin' : (j : Int) + 1 < (n : Int) := by omega
        by_cases hc1 : (pa : Int) + (XA.size : Int) = (pb : Int)
        · by_cases hc2 : xb = []
          · have t2 := tb []
            rw [decide_eq_true hc2] at t2
            have e1 : XB.toList = [] := by simpa using t2
            have gc1 : ((pa : Int) + (XA.size : Int) != (pb : Int)) = false := by rw [bne_eq_false_iff_eq]; exact hc1
            clear hap ta tb hc1 hc2 hpa2 hpb2 hsa
            go_wp2
            exact ⟨⟨⟨j + 1 + 1, by omega, by omega, rfl⟩, (HXR.out.alloc _).alloc _⟩, by simp only [tokM']; omega⟩
          · have gc1 : ((pa : Int) + (XA.size : Int) != (pb : Int)) = false := by rw [bne_eq_false_iff_eq]; exact hc1
            obtain ⟨f1, f2, f3⟩ := hap (by rw [← hsa]; exact hc1) hc2
            have t0 := tb []
            have t1 := ta [60]
            have t2 := ta [62]
            have t3 := tb [61]
            rw [decide_eq_false hc2] at t0
            clear ta tb hap hc1 hpa2 hpb2 hsa
            go_wp2
            all_goals first
              | exact ⟨⟨⟨j + 1 + 1, by omega, by omega, rfl⟩, (HXR.out.alloc _).alloc _⟩, by simp only [tokM']; omega⟩
              | (exfalso; clear p0 p1 p2 p3 q0 q1 q2 q3 HXR HR H1 HLV HLC HSH HX hb1 hb2 hx1 HL1 HAT HAP; simp_all)
        · have gc1 : ((pa : Int) + (XA.size : Int) != (pb : Int)) = true := by rw [bne_iff_ne]; exact hc1
          clear hap ta tb hc1 hpa2 hpb2 hsa
          go_wp2
          exact ⟨⟨⟨j + 1 + 1, by omega, by omega, rfl⟩, (HXR.out.alloc _).alloc _⟩, by simp only [tokM']; omega⟩
      · have hni : ¬ ((i : Int) < (n : Int)) := by omega
        have HLV2 := Lib.hid (HLV.out wr (hx1.trans HXR.out))
        go_wp2_with (first | (go_at_call 17; refine HLV2.out.mono ?_; rintro e w4 ⟨rfl, hx⟩; have hx4 := (hx1.trans HXR.out).trans hx; clear hx))
        go_ret
        exact ⟨rfl, hx4⟩
  · have hx' : (x != 0) = true := by rw [bne_iff_ne]; exact hx0
    clear hx0
    go_wp2_with (first | (go_at_call 17; refine (HLV.out _ hx1).mono ?_; rintro e w4 ⟨rfl, hx⟩; have hx4 := hx1.trans hx; clear hx))
    go_ret
    exact ⟨rfl, hx4⟩
end Go.Proofs.YtbmcplnfamgpcaaDoor
