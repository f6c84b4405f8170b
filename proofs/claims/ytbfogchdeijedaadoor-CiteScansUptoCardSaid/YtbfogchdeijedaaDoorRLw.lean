/- The walk of the reference's Parse of a label. -/
import Derived.Test.YtbfogchdeijedaaDoorRLp
import Derived.Deep.DeepCutAuto
import Derived.Deep.CutBlock
namespace Go.Proofs.YtbfogchdeijedaaDoor
open Go Go.RowKit

def DigRel (s : ByteArray) (s5 : Value) : Prop := ∃ (d : Nat), s5 = .int .i64 d ∧ d ≤ s.size ∧ (s.data.toList.take d).all dig = true
def DigEnd (s : ByteArray) (W : World) (s5 : Value) (wx : World) : Prop := ∃ (d : Nat), s5 = .int .i64 d ∧ d ≤ s.size ∧ (s.data.toList.take d).all dig = true ∧ s.data.toList.takeWhile dig = s.data.toList.take d ∧ s.data.toList.dropWhile dig = s.data.toList.drop d ∧ wx = W
def LNum (s : ByteArray) (w : World) (d : Nat) (s6 : Value) (w' : World) : Prop := ∃ (i : Nat), s6 = .int .i64 i ∧ i ≤ d ∧ Pr w' w.heap.size 0 0 ∧ Pr w' (w.heap.size + 1) (dval 0 (s.data.toList.take i) : Nat) 0 ∧ Ext w w'
def LSuf (s : ByteArray) (w : World) (d : Nat) (s7 : Value) (w' : World) : Prop := ∃ (i : Nat), s7 = .int .i64 i ∧ d ≤ i ∧ i ≤ s.size ∧ ((s.data.toList.drop d).take (i - d)).all low = true ∧ Pr w' w.heap.size 0 0 ∧ Pr w' (w.heap.size + 1) (dval 0 (s.data.toList.take d) : Nat) (sval 0 ((s.data.toList.drop d).take (i - d)) : Nat) ∧ Ext w w'
theorem take_all {l : List UInt8} {i d : Nat} {p : UInt8 → Bool} (h : (l.take d).all p = true) (hi : i ≤ d) : (l.take i).all p = true := by
  rw [List.all_eq_true] at h ⊢
  intro c hc
  exact h c (by
    rw [show l.take i = (l.take d).take i by rw [List.take_take, Nat.min_eq_left hi]] at hc
    exact List.mem_of_mem_take hc)
theorem dig_at {s : ByteArray} {i d : Nat} (hlt : i < s.size) (hid : i < d) (h : (s.data.toList.take d).all dig = true) : 48 ≤ s[i].toNat ∧ s[i].toNat ≤ 57 ∧ True ∧ dval 0 (s.data.toList.take (i + 1)) = 10 * dval 0 (s.data.toList.take i) + (s[i].toNat - 48) := by
  have h1 := take_all h (i := i + 1) (by omega)
  rw [take_snoc hlt, List.all_append] at h1
  simp only [List.all_cons, List.all_nil, Bool.and_true, Bool.and_eq_true] at h1
  have h2 := dig_iff.1 h1.2
  exact ⟨h2.1, h2.2, trivial, by rw [take_snoc hlt, dval_snoc]⟩
theorem dval_small {l : List UInt8} {i d : Nat} (h : (l.take d).all dig = true) (hi : i ≤ d) (hd : d ≤ 5) : dval 0 (l.take i) < 1000000 := by
  have h1 := dval_lt _ 0 (take_all h hi)
  have h2 : (l.take i).length ≤ 5 := by rw [List.length_take]; omega
  have h3 : 10 ^ (l.take i).length ≤ 10 ^ 5 := Nat.pow_le_pow_right (by decide) h2
  omega
theorem low_at {s : ByteArray} {i d : Nat} (hlt : i < s.size) (hdi : d ≤ i) (h : ((s.data.toList.drop d).take (i - d)).all low = true) (hl : 97 ≤ s[i].toNat ∧ s[i].toNat ≤ 122) :
    ((s.data.toList.drop d).take (i + 1 - d)).all low = true ∧ sval 0 ((s.data.toList.drop d).take (i + 1 - d)) = 26 * sval 0 ((s.data.toList.drop d).take (i - d)) + (s[i].toNat - 97) + 1 := by
  have e : (s.data.toList.drop d).take (i + 1 - d) = (s.data.toList.drop d).take (i - d) ++ [s[i]] := by
    rw [show i + 1 - d = i - d + 1 by omega, List.take_add_one]
    congr 1
    have h2 : (s.data.toList.drop d)[i - d]? = some s[i] := by
      rw [List.getElem?_drop, show d + (i - d) = i by omega]
      have h3 := get_list s i hlt
      have : (s.data.toList.drop i)[0]? = some s[i] := by rw [h3]; rfl
      simpa using this
    rw [h2]; rfl
  rw [e, List.all_append, h, sval_snoc]
  exact ⟨by simp only [List.all_cons, List.all_nil, Bool.and_true, Bool.true_and]; exact low_iff.2 hl, rfl⟩
theorem sval_lt : ∀ (l : List UInt8) (a : Nat), l.all low = true → sval a l < (a + 1) * 27 ^ l.length
  | [], a, _ => by simp [sval_nil]
  | c :: l, a, h => by
    simp only [List.all_cons, Bool.and_eq_true] at h
    have hc := low_iff.1 h.1
    have ih := sval_lt l (26 * a + (c.toNat - 97) + 1) h.2
    rw [sval_cons, List.length_cons]
    refine Nat.lt_of_lt_of_le ih ?_
    have : 26 * a + (c.toNat - 97) + 1 + 1 ≤ (a + 1) * 27 := by omega
    calc (26 * a + (c.toNat - 97) + 1 + 1) * 27 ^ l.length ≤ ((a + 1) * 27) * 27 ^ l.length := Nat.mul_le_mul_right _ this
      _ = (a + 1) * 27 ^ (l.length + 1) := by rw [Nat.pow_succ]; simp [Nat.mul_assoc, Nat.mul_comm]
theorem sval_small {l : List UInt8} (hl : l.length ≤ 4) (h : l.all low = true) : sval 0 l < 1000000 := by
  have h1 := sval_lt l 0 h
  have h3 : 27 ^ l.length ≤ 27 ^ 4 := Nat.pow_le_pow_right (by decide) hl
  omega
set_option maxHeartbeats 4000000 in
set_option maxRecDepth 100000 in
theorem rlabp_any (s : ByteArray) (w : World) (hs : s.size ≤ 281474976710656) : Calls Tryd.prog 31 #[.string s] w (LPost (labR (labP s.data.toList)) w) := by
  have HEND := Lib.hid (fun (d : Nat) (hd : d ≤ s.size) (ha : (s.data.toList.take d).all dig = true) (h : ∀ c, (s.data.toList.drop d).head? = some c → dig c = false) => tw_of ha (by rw [list_size]; exact hd) h)
  go_enter Tryd.func31, Tryd.ntmps31
  go_upto_block 0 with (fail)
  go_cut [5] (fun s5 wx => DigEnd s ((w.alloc (.cells #[.int .i64 0, .int .i64 0] 23)).alloc (.cells #[.int .i64 0, .int .i64 0] 23)) s5 wx)
  case first =>
    go_wp2_with fail
    go_loop [5] (fun s5 => DigRel s s5) (fun s5 => toMs s.size s5)
    case atStart => exact ⟨0, rfl, by omega, rfl⟩
    case round =>
      obtain ⟨d, rfl, hd, ha⟩ := hrel
      have HA := Lib.hid ha
      clear ha
      by_cases hlt : d < s.size
      · have hltI : (d : Int) < (s.size : Int) := by omega
        have e := get_list s d hlt
        by_cases hdg : 48 ≤ s[d].toNat ∧ s[d].toNat ≤ 57
        · have hq : (48 : Int) ≤ (s[d].toNat : Int) := by omega
          have hq2 : (s[d].toNat : Int) ≤ 57 := by omega
          have HN := Lib.hid (show (s.data.toList.take (d + 1)).all dig = true by rw [take_snoc hlt, List.all_append, HA.out]; simp [dig]; omega)
          clear hdg e
          go_wp2_with fail
          exact ⟨⟨d + 1, rfl, by omega, HN.out⟩, by simp [toMs]; omega⟩
        · have HN := Lib.hid (HEND.out d hd HA.out (fun c hc => by
            rw [e] at hc
            obtain rfl : s[d] = c := by simpa using hc
            cases hx : dig s[d] with
            | false => rfl
            | true => exact absurd (dig_iff.1 hx) hdg))
          clear e
          by_cases hq : (48 : Int) ≤ (s[d].toNat : Int)
          · have hq2 : ¬ (s[d].toNat : Int) ≤ 57 := by omega
            have hq3 : decide ((s[d].toNat : Int) ≤ 57) = false := decide_eq_false hq2
            clear hdg
            go_wp2_with fail
            go_meet
            case rel => exact ⟨d, rfl, hd, HA.out, HN.out.1, HN.out.2, rfl⟩
          · have hq3 : decide ((48 : Int) ≤ (s[d].toNat : Int)) = false := decide_eq_false hq
            clear hdg
            go_wp2_with fail
            go_meet
            case rel => exact ⟨d, rfl, hd, HA.out, HN.out.1, HN.out.2, rfl⟩
      · have hltI : ¬ (d : Int) < (s.size : Int) := by omega
        have hd0 : decide ((d : Int) < (s.size : Int)) = false := decide_eq_false hltI
        have HN := Lib.hid (HEND.out d hd HA.out (fun c hc => by rw [drop_end s d hlt] at hc; cases hc))
        go_wp2_with fail
        go_meet
        case rel => exact ⟨d, rfl, hd, HA.out, HN.out.1, HN.out.2, rfl⟩
  case rest =>
    obtain ⟨d, rfl, hd, ha, h1, h2, rfl⟩ := hcut
    have HH1 := Lib.hid h1
    have HH2 := Lib.hid h2
    have HA := Lib.hid ha
    clear ha h1 h2 HEND
    have hdl : d ≤ s.data.toList.length := by rw [list_size]; exact hd
    by_cases c1 : d < 1
    · have HF := Lib.hid (rl_none HH1.out HH2.out hdl (.inl c1))
      have e1 : (d : Int) < 1 := by omega
      clear c1 hdl
      go_wp2_with fail
      refine bodyPost_ret (v := .tuple #[.agg #[.int .i64 0, .int .i64 0], .int .i64 7]) (by simp [results, Tryd.results31, go_sem]) rfl ?_
      exact lpost HF.out (by repeat (first | exact Ext.refl _ | apply Ext.alloc))
    have e1 : ¬ (d : Int) < 1 := by omega
    by_cases c2 : 5 < d
    · have HF := Lib.hid (rl_none HH1.out HH2.out hdl (.inr (.inl c2)))
      have e2 : (5 : Int) < (d : Int) := by omega
      clear c1 c2 hdl
      go_wp2_with fail
      refine bodyPost_ret (v := .tuple #[.agg #[.int .i64 0, .int .i64 0], .int .i64 7]) (by simp [results, Tryd.results31, go_sem]) rfl ?_
      exact lpost HF.out (by repeat (first | exact Ext.refl _ | apply Ext.alloc))
    have e2 : ¬ (5 : Int) < (d : Int) := by omega
    have e20 : decide ((5 : Int) < (d : Int)) = false := decide_eq_false e2
    have hp : 0 < s.size := by omega
    have e21 : (0 : Int) < (s.size : Int) := by omega
    have hhd : s.data.toList.head? = some s[0] := by
      have e := get_list s 0 hp
      rw [List.drop_zero] at e
      rw [e]; rfl
    by_cases c3 : s[0].toNat = 48
    · have HF := Lib.hid (rl_none HH1.out HH2.out hdl (.inr (.inr (.inl (by rw [hhd, ← ofNat_toNat c3]; rfl)))))
      have e3 : ((s[0].toNat : Int) == 48) = true := by rw [c3]; rfl
      clear c1 c2 c3 hdl hhd
      go_wp2_with fail
      refine bodyPost_ret (v := .tuple #[.agg #[.int .i64 0, .int .i64 0], .int .i64 7]) (by simp [results, Tryd.results31, go_sem]) rfl ?_
      exact lpost HF.out (by repeat (first | exact Ext.refl _ | apply Ext.alloc))
    have e3 : ((s[0].toNat : Int) == 48) = false := by simpa using (show ¬ (s[0].toNat : Int) = 48 by omega)
    have HN48 := Lib.hid (show s.data.toList.head? ≠ some 48 by rw [hhd]; intro h; injection h with h; rw [h] at c3; exact c3 rfl)
    clear hhd c3
    have hsd : IntKind.i64.wrap ((s.size : Int) - (d : Int)) = (s.size : Int) - (d : Int) := IntWalk.i64_in _ (by omega)
    by_cases c4 : 4 < s.size - d
    · have HF := Lib.hid (rl_none HH1.out HH2.out hdl (.inr (.inr (.inr (by rw [list_size]; exact c4)))))
      have e4 : (4 : Int) < (s.size : Int) - (d : Int) := by omega
      clear c1 c2 c4 hdl
      go_wp2_with fail
      refine bodyPost_ret (v := .tuple #[.agg #[.int .i64 0, .int .i64 0], .int .i64 7]) (by simp [results, Tryd.results31, go_sem]) rfl ?_
      exact lpost HF.out (by repeat (first | exact Ext.refl _ | apply Ext.alloc))
    have e4 : ¬ (4 : Int) < (s.size : Int) - (d : Int) := by omega
    go_wp2_with fail
    have HP0 := Lib.hid (show Pr ((w.alloc (.cells #[.int .i64 0, .int .i64 0] 23)).alloc (.cells #[.int .i64 0, .int .i64 0] 23)) w.heap.size 0 0 from (Pr.new w 0 0 23).ext ((Ext.refl _).alloc _))
    have HP1 := Lib.hid (show Pr ((w.alloc (.cells #[.int .i64 0, .int .i64 0] 23)).alloc (.cells #[.int .i64 0, .int .i64 0] 23)) (w.heap.size + 1) 0 0 from by have := Pr.new (w.alloc (.cells #[.int .i64 0, .int .i64 0] 23)) 0 0 23; rwa [World.size_alloc] at this)
    have HX0 := Lib.hid (show Ext w ((w.alloc (.cells #[.int .i64 0, .int .i64 0] 23)).alloc (.cells #[.int .i64 0, .int .i64 0] 23)) from ((Ext.refl _).alloc _).alloc _)
    have hne : w.heap.size + 1 ≠ w.heap.size := by omega
    go_loopw [6] (fun s6 w' => LNum s w d s6 w') (fun s6 _ => toMs d s6)
    case atStart => exact ⟨0, rfl, by omega, HP0.out, HP1.out, HX0.out⟩
    case round =>
      obtain ⟨i, rfl, hi, hr0, hr1, hxr⟩ := hrel
      have HR0 := Lib.hid hr0
      have HR1 := Lib.hid hr1
      have HXR := Lib.hid hxr
      clear hr0 hr1 hxr
      by_cases hid : i < d
      · have hidI : (i : Int) < (d : Int) := by omega
        have hlt : i < s.size := by omega
        have hltI : (i : Int) < (s.size : Int) := by omega
        obtain ⟨k1, k2, k3, k4⟩ := dig_at hlt hid HA.out
        have hdv : dval 0 (s.data.toList.take i) < 1000000 := dval_small HA.out (by omega) (by omega)
        have K4 := Lib.hid k4
        obtain ⟨z9, z0, z1, z2, z3⟩ := HR1.out
        generalize hgd : dval 0 (s.data.toList.take i) = dv at *
        have kI : (48 : Int) ≤ (s[i].toNat : Int) := by omega
        have kI2 : (s[i].toNat : Int) ≤ 57 := by omega
        have HGD := Lib.hid hgd
        clear hgd k4
        go_wp2_with fail
        go_region
        go_wp2_with fail
        refine ⟨⟨i + 1, rfl, by omega, (HR0.out.other hne _).ext (Ext.refl _).drew, ?_, (HXR.out.setCell (by show w.heap.size ≤ w.heap.size + 1; omega) _).drew⟩, by simp [toMs]; omega⟩
        have hv : (10 * (dv : Int) + ((s[i].toNat : Int) - 48)) = ((dval 0 (s.data.toList.take (i + 1)) : Nat) : Int) := by rw [K4.out]; omega
        have := (HR1.out.set0 (10 * (dv : Int) + ((s[i].toNat : Int) - 48))).ext (Ext.refl _).drew
        rw [hv] at this ⊢
        exact this
      · have hidI : ¬ (i : Int) < (d : Int) := by omega
        obtain rfl : d = i := by omega
        go_wp2_with fail
        go_loopw [7] (fun s7 w' => LSuf s w d s7 w') (fun s7 _ => toMs s.size s7)
        case atStart => exact ⟨d, rfl, Nat.le_refl _, hd, by rw [Nat.sub_self, List.take_zero]; rfl, HR0.out, by rw [Nat.sub_self, List.take_zero]; exact HR1.out, HXR.out⟩
        case round =>
          obtain ⟨i, rfl, hdi, his, hal, hr0, hr1, hxr⟩ := hrel
          have HR0 := Lib.hid hr0
          have HR1 := Lib.hid hr1
          have HXR := Lib.hid hxr
          have HAL := Lib.hid hal
          obtain ⟨z9, z0, z1, z2, z3⟩ := hr1
          clear hr0 hxr hal
          by_cases hlt : i < s.size
          · have hltI : (i : Int) < (s.size : Int) := by omega
            have hli : i < s.data.toList.length := by rw [list_size]; exact hlt
            by_cases hlow : 97 ≤ s[i].toNat ∧ s[i].toNat ≤ 122
            · have hsv : sval 0 ((s.data.toList.drop d).take (i - d)) < 1000000 := sval_small (by rw [List.length_take]; omega) HAL.out
              obtain ⟨k1, k2⟩ := low_at hlt hdi HAL.out hlow
              have K1 := Lib.hid k1
              have K2 := Lib.hid k2
              generalize hgd : sval 0 ((s.data.toList.drop d).take (i - d)) = sv at *
              have HGD := Lib.hid hgd
              have kI : ¬ (s[i].toNat : Int) < 97 := by omega
              have kI2 : ¬ (122 : Int) < (s[i].toNat : Int) := by omega
              have kI3 : (97 : Int) ≤ (s[i].toNat : Int) := by omega
              have kI4 : (s[i].toNat : Int) ≤ 122 := by omega
              clear hgd k1 k2 hlow
              go_wp2_with fail
              go_region
              go_wp2_with fail
              refine ⟨⟨i + 1, rfl, by omega, by omega, K1.out, (HR0.out.other hne _).ext (Ext.refl _).drew, ?_, (HXR.out.setCell (by show w.heap.size ≤ w.heap.size + 1; omega) _).drew⟩, by simp [toMs]; omega⟩
              have hv : (26 * (sv : Int) + ((s[i].toNat : Int) - 97) + 1) = ((sval 0 ((s.data.toList.drop d).take (i + 1 - d)) : Nat) : Int) := by rw [K2.out]; omega
              have := (HR1.out.set1 (26 * (sv : Int) + ((s[i].toNat : Int) - 97) + 1)).ext (Ext.refl _).drew
              rw [hv] at this ⊢
              exact this
            · have HF := Lib.hid (rl_bad (l := s.data.toList) HH2.out hdi hli (by
                have e : s.data.toList[i] = s[i] := rfl
                rw [e]
                cases hx : low s[i] with
                | false => rfl
                | true => exact absurd (low_iff.1 hx) hlow))
              obtain ⟨y9, y0, y1, y2, y3⟩ := HR0.out
              by_cases hq : (s[i].toNat : Int) < 97
              · clear hlow
                go_wp2_with fail
                refine bodyPost_ret (v := .tuple #[.agg #[.int .i64 0, .int .i64 0], .int .i64 7]) (by simp [results, Tryd.results31, go_sem, *]) rfl ?_
                exact lpost HF.out (by repeat (first | exact HXR.out | refine Ext.setCell ?_ (Nat.le_refl _) _))
              · have hq2 : (122 : Int) < (s[i].toNat : Int) := by omega
                clear hlow
                go_wp2_with fail
                refine bodyPost_ret (v := .tuple #[.agg #[.int .i64 0, .int .i64 0], .int .i64 7]) (by simp [results, Tryd.results31, go_sem, *]) rfl ?_
                exact lpost HF.out (by repeat (first | exact HXR.out | refine Ext.setCell ?_ (Nat.le_refl _) _))
          · obtain rfl : s.size = i := by omega
            have hltI : ¬ ((s.size : Nat) : Int) < (s.size : Int) := by omega
            have htd : (s.data.toList.drop d).take (s.size - d) = s.data.toList.drop d := List.take_of_length_le (by rw [List.length_drop, list_size]; omega)
            have hal := HAL.out
            rw [htd] at hal z1
            have hr1' := HR1.out
            rw [htd] at hr1'
            clear HR1
            have HR1 := Lib.hid hr1'
            clear hr1'
            have hlab := rl_good HH1.out HH2.out hdl (by omega) (by omega) HN48.out (by rw [list_size]; omega) hal
            obtain ⟨y9, y0, y1, y2, y3⟩ := HR0.out
            generalize hn : dval 0 (s.data.toList.take d) = nn at *
            generalize hsu : sval 0 (s.data.toList.drop d) = ss at *
            have HLAB := Lib.hid hlab
            clear hlab hn hsu hal htd
            cases hlb : labB nn ss with
            | true =>
              have HC := Lib.hid (fun W => (show Calls Tryd.prog 39 #[.agg #[.int .i64 nn, .int .i64 ss]] W (fun e W' => e = .returned (.int .i64 0) ∧ Ext W W') from by
                have := rchk_any nn ss W; unfold LabPost labE at this; rw [hlb] at this; exact this))
              have HF := Lib.hid (show labR (labP s.data.toList) = ((nn : Int), (ss : Int), 0) by rw [HLAB.out]; unfold labR; simp only [hlb]; rfl)
              clear hlb
              go_wp2_with (first | (go_at_call 39; refine (HC.out _).mono ?_; rintro e w5 ⟨rfl, hx5⟩; obtain ⟨x9, x0, x1, x2, x3⟩ := HR0.out.ext hx5; obtain ⟨u9, v0, v1, v2, v3⟩ := HR1.out.ext hx5))
              refine bodyPost_ret (v := .tuple #[.agg #[.int .i64 nn, .int .i64 ss], .int .i64 0]) (by simp [results, Tryd.results31, go_sem, *]) rfl ?_
              exact lpost HF.out (by repeat (first | exact HXR.out.trans hx5 | refine Ext.setCell ?_ (Nat.le_refl _) _))
            | false =>
              have HC := Lib.hid (fun W => (show Calls Tryd.prog 39 #[.agg #[.int .i64 nn, .int .i64 ss]] W (fun e W' => e = .returned (.int .i64 5) ∧ Ext W W') from by
                have := rchk_any nn ss W; unfold LabPost labE at this; rw [hlb] at this; exact this))
              have HF := Lib.hid (show labR (labP s.data.toList) = (0, 0, 5) by rw [HLAB.out]; unfold labR; simp only [hlb]; rfl)
              clear hlb
              go_wp2_with (first | (go_at_call 39; refine (HC.out _).mono ?_; rintro e w5 ⟨rfl, hx5⟩; obtain ⟨x9, x0, x1, x2, x3⟩ := HR0.out.ext hx5))
              refine bodyPost_ret (v := .tuple #[.agg #[.int .i64 0, .int .i64 0], .int .i64 5]) (by simp [results, Tryd.results31, go_sem, *]) rfl ?_
              exact lpost HF.out (by repeat (first | exact HXR.out.trans hx5 | refine Ext.setCell ?_ (Nat.le_refl _) _))
end Go.Proofs.YtbfogchdeijedaaDoor
