/- The law of the tail walked. -/
import Derived.Test.YtnpenepdechkjaaGreatDoorMj
import Derived.Test.YtnpenepdechkjaaGreatDoorQj
namespace Go.Proofs.YtnpenepdechkjaaGreatDoor
open Go Go.RowKit

set_option maxRecDepth 100000 in
/-- Tokens of whatever source, without its list. -/
theorem tokE_any (s : ByteArray) (w : World) (hs : s.size ≤ 2305843009213693952) (hE : Env13 w) : Calls Tryz.prog 28 #[.string s] w (fun e W' => ∃ A n c off, e = .returned (.tuple #[.slice A n c, .int .i64 off, .int .i64 (lexT s.data.toList).e]) ∧ Ext w W') := by
  have z1 : s.data.toList.length = s.size := by rw [Array.length_toList]; rfl
  by_cases hbig : 4000 < s.size
  · have h1 : (lexT s.data.toList).e = 2 := by unfold lexT; rw [if_pos (by omega)]
    rw [h1]
    have hI : (4000 : Int) < (s.size : Int) := by omega
    clear z1 h1 hbig hE
    go_enter Tryz.func28, Tryz.ntmps28
    go_wp2
    go_step3
    go_wp2
    rw [Exit.noGoto_ret]
    refine bodyPost_ret (v := .tuple #[.slice none 0 0, .int .i64 4000, .int .i64 2]) (by simp [results, Tryz.results28, go_sem, *]) rfl ?_
    exact ⟨_, _, _, _, rfl, Ext.refl _⟩
  · refine (tokens_any s w (by omega) hE.1 hE.2.1).mono ?_
    rintro e W' ⟨A, c, rfl, _, hx, _⟩
    exact ⟨A, _, c, _, rfl, hx⟩
def TlRel (w : World) (j : Nat) (s11 : Value) (X : World) : Prop := ∃ k : Nat, k ≤ j ∧ s11 = .int .i64 k ∧ Ext w X
set_option maxHeartbeats 2000000 in
set_option maxRecDepth 100000 in
theorem tail_any (s u : ByteArray) (w : World) (hs : s.size ≤ 281474976710656) (hu : u.size ≤ 281474976710656) (hE : EnvP w) : Calls Tryz.prog 9 #[.string s, .string u] w (BQ2 true w) := by
  have HE := Lib.hid hE
  have HP := Lib.hid (pParse_any s w hs hE.1)
  have HT := Lib.hid (fun X (hX : Ext w X) => tokens_any s X hs (hE.1.ext hX).1 (hE.1.ext hX).2.1)
  have HLV := Lib.hid (fun X (hX : Ext w X) => lives_any X (hE.ext hX))
  have z1 : s.data.toList.length = s.size := by rw [Array.length_toList]; rfl
  obtain ⟨y, hy⟩ : ∃ y, y = parseR s.data.toList := ⟨_, rfl⟩
  obtain ⟨x, hx⟩ : ∃ x, x = lexT s.data.toList := ⟨_, rfl⟩
  rw [← hy] at HP
  rw [← hx] at HT
  obtain ⟨v, at_, er⟩ := y
  have HLAW := Lib.hid (fun h1 h2 h3 => tail_R (s := s.data.toList) (v0 := v) (at_ := at_) (e := er) hy.symm h1 h2 h3)
  rw [← hx, z1] at HLAW
  have HSH := Lib.hid (show x.e = 0 → x.l.length ≤ 4001 ∧ s.size ≤ 4000 from fun h => by
    rw [hx] at h
    obtain ⟨_, h2, _, _, _, h6⟩ := lexT_ok h
    rw [hx]; exact ⟨h2, by omega⟩)
  try simp only at HP
  obtain ⟨tl, off, f⟩ := x
  try simp only at HT
  try simp only at HLAW
  try simp only at HSH
  clear hE hy hx z1
  unfold PaPost RWl at HP
  try simp only at HP
  unfold TokPost at HT
  try simp only at HT
  obtain ⟨n, hn⟩ : ∃ n, n = v.length := ⟨_, rfl⟩
  obtain ⟨N, hN⟩ : ∃ n, n = tl.length := ⟨_, rfl⟩
  rw [← hn] at HP
  rw [← hN] at HT HSH
  have HNN := Lib.hid hN
  clear hn hN
  have hsI : (s.size : Int) ≤ 281474976710656 := by omega
  by_cases c0 : er = 0
  case pos =>
    have t0 : (er == 0) = true := by simp [c0]
    clear c0
    go_enter Tryz.func9, Tryz.ntmps9
    go_wp2_with (first
      | (go_at_call 14; refine (HP.out).mono ?_; rintro e w1 ⟨v1, rfl, ⟨A1, c1, rfl, _⟩, hx1⟩; have HX1 := Lib.hid hx1; clear hx1)
      | (go_at_call 28; refine (HT.out _ HX1.out).mono ?_; rintro e w2 ⟨A2, c2, rfl, _, hx2, _⟩; have HX2 := Lib.hid (HX1.out.trans hx2); clear hx2)
      | (go_at_call 17; refine (HLV.out _ HX2.out).mono ?_; rintro e w3 ⟨rfl, hx3⟩))
    go_ret
    exact ⟨rfl, HX2.out.trans hx3⟩
  have t0 : (er == 0) = false := by simpa using c0
  by_cases c1 : f = 0
  case neg =>
    have t1 : (f != 0) = true := by simpa using c1
    clear c0 c1
    go_enter Tryz.func9, Tryz.ntmps9
    go_wp2_with (first
      | (go_at_call 14; refine (HP.out).mono ?_; rintro e w1 ⟨v1, rfl, ⟨A1, c1, rfl, _⟩, hx1⟩; have HX1 := Lib.hid hx1; clear hx1)
      | (go_at_call 28; refine (HT.out _ HX1.out).mono ?_; rintro e w2 ⟨A2, c2, rfl, _, hx2, _⟩; have HX2 := Lib.hid (HX1.out.trans hx2); clear hx2)
      | (go_at_call 17; refine (HLV.out _ HX2.out).mono ?_; rintro e w3 ⟨rfl, hx3⟩))
    go_ret
    exact ⟨rfl, HX2.out.trans hx3⟩
  have t1 : (f != 0) = false := by simp [c1]
  by_cases c2 : at_ < 0
  case pos =>
    clear c0 c1
    go_enter Tryz.func9, Tryz.ntmps9
    go_wp2_with (first
      | (go_at_call 14; refine (HP.out).mono ?_; rintro e w1 ⟨v1, rfl, ⟨A1, c1, rfl, _⟩, hx1⟩; have HX1 := Lib.hid hx1; clear hx1)
      | (go_at_call 28; refine (HT.out _ HX1.out).mono ?_; rintro e w2 ⟨A2, c2, rfl, _, hx2, _⟩; have HX2 := Lib.hid (HX1.out.trans hx2); clear hx2)
      | (go_at_call 17; refine (HLV.out _ HX2.out).mono ?_; rintro e w3 ⟨rfl, hx3⟩))
    go_ret
    exact ⟨rfl, HX2.out.trans hx3⟩
  by_cases c3 : at_ < (s.size : Int)
  case neg =>
    have t3 : (s.size : Int) ≤ at_ := by omega
    clear c0 c1
    go_enter Tryz.func9, Tryz.ntmps9
    go_wp2_with (first
      | (go_at_call 14; refine (HP.out).mono ?_; rintro e w1 ⟨v1, rfl, ⟨A1, c1, rfl, _⟩, hx1⟩; have HX1 := Lib.hid hx1; clear hx1)
      | (go_at_call 28; refine (HT.out _ HX1.out).mono ?_; rintro e w2 ⟨A2, c2, rfl, _, hx2, _⟩; have HX2 := Lib.hid (HX1.out.trans hx2); clear hx2)
      | (go_at_call 17; refine (HLV.out _ HX2.out).mono ?_; rintro e w3 ⟨rfl, hx3⟩))
    go_ret
    exact ⟨rfl, HX2.out.trans hx3⟩
  have t3 : ¬ (s.size : Int) ≤ at_ := by omega
  obtain ⟨j, t, p, b1, b2, b3, b4, b5, b6, b7⟩ := HLAW.out c0 c1 c3
  obtain ⟨hNl, hs4⟩ := HSH.out c1
  subst b4
  have hjN : j < N := by rw [HNN.out]; exact (List.getElem?_eq_some_iff.1 b1).1
  obtain ⟨T, hT⟩ : ∃ T, T = bs t.tx := ⟨_, rfl⟩
  have hTs : T.size = t.tx.length := by rw [hT, bs_size]
  have hpI : (p : Int) ≤ (s.size : Int) := by omega
  have he0 : (s.extract 0 p).size = p := by rw [ByteArray.size_extract]; omega
  obtain ⟨S0, hS0⟩ : ∃ S, S = s.extract 0 p := ⟨_, rfl⟩
  rw [← hS0] at he0
  have r0 : ¬ 9223372036854775807 < S0.size + T.size := by omega
  have r1 : ¬ 9223372036854775807 < S0.size + T.size + 1 := by omega
  have r2 : ¬ 9223372036854775807 < S0.size + T.size + 1 + u.size := by omega
  obtain ⟨Z, hZ⟩ : ∃ Z, Z = S0 ++ T ++ ⟨#[10]⟩ ++ u := ⟨_, rfl⟩
  have hZs : Z.size = S0.size + T.size + 1 + u.size := by rw [hZ, ByteArray.size_append, ByteArray.size_append, ByteArray.size_append]; rfl
  have hZl : Z.data.toList = s.data.toList.take p ++ t.tx ++ 10 :: u.data.toList := by
    rw [hZ, hS0, hT]
    simp [ByteArray.data_extract]
  obtain ⟨g, hg⟩ : ∃ g, g = (lexT Z.data.toList).e := ⟨_, rfl⟩
  have HTZ := Lib.hid (fun X (hX : Ext w X) => tokE_any Z X (by omega) (HE.out.ext hX).1)
  rw [← hg] at HTZ
  have HPZ := Lib.hid (fun (h : g = 0) X (hX : Ext w X) => (show Calls Tryz.prog 14 #[.string Z] X (fun e W' => ∃ A n c, e = .returned (.tuple #[.slice A n c, .int .i64 (p : Int), .int .i64 er]) ∧ Ext X W') from by
    rw [hg] at h
    have hq := b7 u.data.toList (by rw [← hZl]; exact h)
    rw [← hZl] at hq
    obtain ⟨_, _, _, _, _, h6⟩ := lexT_ok h
    refine (pParse_any Z X (by have : Z.data.toList.length = Z.size := by rw [Array.length_toList]; rfl
                               omega) (HE.out.ext hX).1).mono ?_
    rintro e W' ⟨v1, rfl, ⟨A, c, rfl, _⟩, hx⟩
    rw [hq]
    exact ⟨A, _, c, rfl, hx⟩))
  have HB1 := Lib.hid b1
  have HB2 := Lib.hid b2
  have HB3 := Lib.hid b3
  have HB6 := Lib.hid b6
  have HTT := Lib.hid hT
  have HZZ := Lib.hid hZ
  have HSS := Lib.hid hS0
  have hp4 : p ≤ s.size := by omega
  clear c0 c1 b1 b2 b3 b5 b6 b7 hT hTs hZ hZs hZl hg hS0 HLAW HSH hs4
  go_enter Tryz.func9, Tryz.ntmps9
  go_upto_region 5 with (first
    | (go_at_call 14; refine (HP.out).mono ?_; rintro e w1 ⟨v1, rfl, ⟨A1, c1, rfl, _⟩, hx1⟩; have HX1 := Lib.hid hx1; clear hx1)
    | (go_at_call 28; refine (HT.out _ HX1.out).mono ?_; rintro e w2 ⟨A2, c2, rfl, hsl, hx2, _⟩; have HX2 := Lib.hid (HX1.out.trans hx2); have HSL := Lib.hid hsl; clear hx2 hsl))
  clear t0 t1 t3
  go_wp2_with fail
  go_loopw [11] (fun s11 X => TlRel w2 j s11 X) (fun s11 _ => toM (j + 1) s11)
  case atStart => exact ⟨0, Nat.zero_le _, rfl, Ext.refl _⟩
  case round =>
    obtain ⟨k, hk, rfl, hx⟩ := hrel
    have HX := Lib.hid (HX2.out.trans hx)
    have HXR := Lib.hid hx
    have hkN : k < N := by omega
    have hI : (k : Int) < (N : Int) := by omega
    obtain ⟨gb, off, tk, hA, hgb, htk, p0, p1, p2, p3⟩ := (HSL.out.ext hx).tok hkN
    subst hA
    have HTK := Lib.hid htk
    clear hx htk
    by_cases hkj : k = j
    · have hte : tk = t := by
        have h9 := HTK.out
        rw [hkj, HB1.out] at h9
        injection h9 with h9
        exact h9.symm
      have u1 : (tk.at_ == (p : Int)) = true := by rw [hte, HB2.out]; exact beq_self_eq_true _
      have u2 : (tk.kd != 0) = true := by rw [hte, bne_iff_ne]; exact HB3.out
      rw [show (⟨tk.tx.toArray⟩ : ByteArray) = T from by rw [hte]; exact HTT.out.symm] at p2
      clear hte hkj
      go_upto_region 9 with (fail)
      go_cut [12] (fun s12 wx => s12 = .string Z ∧ Ext wr wx)
      case first =>
        have hm : (s.extract 0 p).size = p := by rw [← HSS.out]; exact he0
        have r0' : ¬ 9223372036854775807 < (s.extract 0 p).size + T.size := by rw [hm]; omega
        go_quiet (fail)
        go_wp2
        go_meet
        case rel => exact ⟨by rw [HZZ.out, HSS.out], (Ext.refl _).drewN _⟩
      case rest =>
        obtain ⟨rfl, hxc⟩ := hcut
        have HXC := Lib.hid (HX.out.trans hxc)
        clear hxc p0 p1 p2 p3 u1 u2
        by_cases cz : g = 0
        · have tz : (g != 0) = false := by simp [cz]
          have HPY := Lib.hid (HPZ.out cz)
          clear cz
          go_wp2_with fail
          refine (HTZ.out _ HXC.out).mono ?_
          rintro e w5 ⟨A5, n5, c5, o5, rfl, hx5⟩
          have HX5 := Lib.hid (HXC.out.trans hx5)
          clear hx5
          go_wp2_with fail
          refine (HPY.out _ HX5.out).mono ?_
          rintro e w6 ⟨A6, n6, c6, rfl, hx6⟩
          have HX6 := Lib.hid (HX5.out.trans hx6)
          clear hx6
          go_wp2_with fail
          refine (HLV.out _ HX6.out).mono ?_
          rintro e w7 ⟨rfl, hx7⟩
          go_wp2_with fail
          go_ret
          exact ⟨rfl, HX6.out.trans hx7⟩
        · have tz : (g != 0) = true := by simpa using cz
          clear cz
          go_wp2_with fail
          refine (HTZ.out _ HXC.out).mono ?_
          rintro e w5 ⟨A5, n5, c5, o5, rfl, hx5⟩
          have HX5 := Lib.hid (HXC.out.trans hx5)
          clear hx5
          go_wp2_with fail
          refine (HLV.out _ HX5.out).mono ?_
          rintro e w7 ⟨rfl, hx7⟩
          go_wp2_with fail
          go_ret
          exact ⟨rfl, HX5.out.trans hx7⟩
    · have u1 : (tk.at_ == (p : Int)) = false := by
        rw [beq_eq_false_iff_ne]
        exact fun e => hkj (HB6.out k tk HTK.out e)
      have hlt : k < j := by omega
      clear hkj
      go_wp2
      exact ⟨⟨k + 1, by omega, by simp, HXR.out⟩, by simp only [toM]; omega⟩
end Go.Proofs.YtnpenepdechkjaaGreatDoor
