/- The walk of the law CiteRound. -/
import Derived.Test.YtbfogchdeijedaaDoorLives
namespace Go.Proofs.YtbfogchdeijedaaDoor
open Go Go.RowKit

theorem tx4 (a b c d : Int) (w : World) (htab : Tab w) : Calls Tryd.prog 9 #[.agg #[.int .i64 a, .int .i64 b, .int .i64 c, .int .i64 d]] w (StrPost (textP ⟨a, b, c, d⟩) w) := ctext_any ⟨a, b, c, d⟩ w htab
theorem citOf_nat (n : Int) : ∃ br nu su li : Nat, citOf n = ⟨br, nu, su, li⟩ ∧ br < 256 ∧ 1 ≤ nu ∧ nu ≤ 16384 ∧ su ≤ 16384 ∧ 1 ≤ li ∧ li ≤ 100 := by
  have hc := citOf_ok n
  obtain ⟨h1, h2, h3, h4, h5, h6, h7, h8⟩ := citB_cases hc
  generalize citOf n = c at *
  obtain ⟨br, nu, su, li⟩ := c
  simp only at h1 h2 h3 h4 h5 h6 h7 h8
  exact ⟨br.toNat, nu.toNat, su.toNat, li.toNat, by rw [Int.toNat_of_nonneg h1, Int.toNat_of_nonneg (by omega), Int.toNat_of_nonneg h7, Int.toNat_of_nonneg (by omega)], by omega, by omega, by omega, by omega, by omega, by omega⟩
theorem bytes_self (s : ByteArray) : (⟨s.data.toList.toArray⟩ : ByteArray) = s := by cases s; simp
/-- A text whose middle part lies between two slashes. -/
theorem mid_get (a b d : List UInt8) (S : ByteArray) (hS : S = ⟨(a ++ (47 :: (b ++ (47 :: d)))).toArray⟩) : S.size = a.length + 1 + b.length + 1 + d.length ∧ (∀ h : a.length < S.size, (S[a.length]'h).toNat = 47) ∧ S.extract (a.length + 1) (a.length + 1 + b.length) = ⟨b.toArray⟩ := by
  subst hS
  refine ⟨?_, fun h => ?_, ?_⟩
  · show (a ++ (47 :: (b ++ (47 :: d)))).toArray.size = _
    simp <;> omega
  · show ((a ++ (47 :: (b ++ (47 :: d)))).toArray[a.length]'(by simp)).toNat = 47
    simp
  · apply ByteArray.ext
    rw [ByteArray.data_extract]
    apply Array.toList_inj.1
    simp
def MidRel (i0 : Nat) (n : Nat) (s12 s13 : Value) : Prop := ∃ (i : Nat) (m : Bool), s13 = .int .i64 i ∧ s12 = .bool m ∧ i ≤ n ∧ (i0 < i → m = true)
set_option maxHeartbeats 4000000 in
set_option maxRecDepth 100000 in
theorem round_any (raw : ByteArray) (n : Int) (w : World) (hE : Env w) (hr : raw.size ≤ 281474976710656) (hn : -9223372036854775808 ≤ n ∧ n ≤ 9223372036854775807) :
    Calls Tryd.prog 5 #[.string raw, .int .i64 n] w (BoolPost true w) := by
  have HE := Lib.hid (fun X (hX : Ext w X) => hE.ext hX)
  obtain ⟨br, nu, su, li, hcit, hbr, hnu1, hnu2, hsu, hli1, hli2⟩ := citOf_nat n
  have HD := Lib.hid (fun X => (show Calls Tryd.prog 7 #[.int .i64 n] X (fun e X' => e = .returned (.agg #[.int .i64 br, .int .i64 nu, .int .i64 su, .int .i64 li]) ∧ Ext X X') from by
    have := cite_any n X hn.1 hn.2; unfold CitePost at this; rw [hcit] at this; exact this))
  have hok : citB ⟨br, nu, su, li⟩ = true := hcit ▸ citOf_ok n
  have htx : textP ⟨br, nu, su, li⟩ = Lib.decDigits br ++ (47 :: (Lib.decDigits nu ++ lets su ++ (47 :: Lib.decDigits li))) := by
    unfold textP; rw [if_pos hok]; simp only [Int.toNat_natCast]
  obtain ⟨S, hS⟩ : ∃ S : ByteArray, S = ⟨(textP ⟨br, nu, su, li⟩).toArray⟩ := ⟨_, rfl⟩
  obtain ⟨L, hL⟩ : ∃ L : ByteArray, L = ⟨(Lib.decDigits nu ++ lets su).toArray⟩ := ⟨_, rfl⟩
  obtain ⟨hm1, hm2, hm3⟩ := mid_get (Lib.decDigits br) (Lib.decDigits nu ++ lets su) (Lib.decDigits li) S (by rw [hS, htx])
  have hLs : L.size = (Lib.decDigits nu ++ lets su).length := by rw [hL]; show (Lib.decDigits nu ++ lets su).toArray.size = _; simp
  have hL0 : 0 < L.size := by rw [hLs, List.length_append, Lib.decDigits_length]; have := Lib.nDigits_pos nu; omega
  have hll := lab_len nu su (by omega) hsu
  have hld := dec_len br (by omega)
  have hld2 := dec_len li (by omega)
  have hS3 : S.size ≤ 1000 := by
    have e1 : (⟨(Lib.decDigits br).toArray⟩ : ByteArray).size = (Lib.decDigits br).length := rfl
    have e2 : (⟨(Lib.decDigits li).toArray⟩ : ByteArray).size = (Lib.decDigits li).length := rfl
    have e3 : (⟨(Lib.decDigits nu ++ lets su).toArray⟩ : ByteArray).size = (Lib.decDigits nu ++ lets su).length := rfl
    omega
  have HT := Lib.hid (fun X (hX : Ext w X) => (show Calls Tryd.prog 9 #[.agg #[.int .i64 br, .int .i64 nu, .int .i64 su, .int .i64 li]] X (fun e X' => e = .returned (.string S) ∧ Ext X X') from hS ▸ tx4 br nu su li X (HE.out X hX).tab))
  have HP2 := Lib.hid (fun X (hX : Ext w X) => (show Calls Tryd.prog 12 #[.string S] X (fun e X' => e = .returned (.tuple #[.agg #[.int .i64 br, .int .i64 nu, .int .i64 su, .int .i64 li], .int .i64 0]) ∧ Ext X X') from by
    have := cparse_any S X (by omega) (HE.out X hX)
    rw [show S.data.toList = textP ⟨br, nu, su, li⟩ by rw [hS], parse_text hok] at this; exact this))
  have HL := Lib.hid (fun X (hX : Ext w X) => (show Calls Tryd.prog 14 #[.agg #[.int .i64 nu, .int .i64 su]] X (fun e X' => e = .returned (.string L) ∧ Ext X X') from hL ▸ ltext_any nu su X ⟨hnu1, hnu2⟩ hsu (HE.out X hX).tab))
  have hm3' : S.extract ((Lib.decDigits br).length + 1) ((Lib.decDigits br).length + 1 + L.size) = L := by rw [hLs, hm3, hL]
  have hi0 : (Lib.decDigits br).length + L.size < S.size := by omega
  generalize (Lib.decDigits br).length = i0 at *
  have HM2 := Lib.hid hm2
  have HM3 := Lib.hid hm3'
  clear hm1 hm2 hm3 hm3' hLs hll hld hld2 hS hL htx hcit hok
  have hne : L.toList.isEmpty = false := by
    rw [ByteArray.toList_eq]
    cases h : L.data.toList with
    | nil =>
      have : L.size = 0 := by
        have e := congrArg List.length h
        simpa using e
      omega
    | cons => rfl
  obtain ⟨pc, hpc⟩ : ∃ p, parseP raw.data.toList = p := ⟨_, rfl⟩
  obtain ⟨c, er⟩ := pc
  obtain ⟨a, b, c', d⟩ := c
  have HP1 := Lib.hid (fun X (hX : Ext w X) => (show Calls Tryd.prog 12 #[.string raw] X (fun e X' => e = .returned (.tuple #[.agg #[.int .i64 a, .int .i64 b, .int .i64 c', .int .i64 d], .int .i64 er]) ∧ Ext X X') from by
    have := cparse_any raw X hr (HE.out X hX); rw [hpc] at this; exact this))
  have hcase : (er == 0) = true ∨ (er == 0) = false := by cases er == 0 <;> simp
  have HTR := Lib.hid (fun (h0 : er = 0) X (hX : Ext w X) => (show Calls Tryd.prog 9 #[.agg #[.int .i64 a, .int .i64 b, .int .i64 c', .int .i64 d]] X (fun e X' => e = .returned (.string raw) ∧ Ext X X') from by
    have := tx4 a b c' d X (HE.out X hX).tab
    rw [h0] at hpc
    rw [(text_parse hpc).1] at this
    refine this.mono ?_
    rintro e X' ⟨rfl, hx⟩
    exact ⟨by rw [bytes_self], hx⟩))
  clear hpc hE hn
  rcases hcase with h0 | h0
  · have h00 : er = 0 := by simpa using h0
    have HTR2 := Lib.hid (HTR.out h00)
    subst h00
    clear HTR h0
    go_enter Tryd.func5, Tryd.ntmps5
    go_upto_region 2 with (first | (go_at_call 12; refine (HP1.out _ (Ext.refl _)).mono ?_; rintro e w1 ⟨rfl, hx1⟩))
    go_upto_region 4 with (first | (go_at_call 9; refine (HTR2.out _ (hx1.alloc _)).mono ?_; rintro e w2 ⟨rfl, hx⟩; have hx2 := (hx1.alloc _).trans hx; clear hx))
    go_upto_region 5 with (first | (go_at_call 7; refine (HD.out _).mono ?_; rintro e w3 ⟨rfl, hx⟩; have hx3 := hx2.trans hx; clear hx))
    go_upto_region 6 with (first | (go_at_call 9; refine (HT.out _ (hx3.alloc _)).mono ?_; rintro e w4 ⟨rfl, hx⟩; have hx4 := (hx3.alloc _).trans hx; have hb4 := (Box.new w3 br nu su li 25).ext hx; clear hx))
    go_upto_region 7 with (first | (go_at_call 12; refine (HP2.out _ hx4).mono ?_; rintro e w5 ⟨rfl, hx⟩; have hx5 := hx4.trans hx; have hb5 := (hb4.ext hx).ext ((Ext.refl _).alloc (.cells #[.int .i64 br, .int .i64 nu, .int .i64 su, .int .i64 li] 25)); clear hx))
    obtain ⟨z0, c0, c1, c2, c3, _, _, _, _⟩ := hb5
    have HB := Lib.hid hb4
    clear hb4
    go_upto_region 8 with (first | (go_at_call 14; refine (HL.out _ (hx5.alloc _)).mono ?_; rintro e w6 ⟨rfl, hx⟩; have hx6 := (hx5.alloc _).trans hx; obtain ⟨q, _⟩ := hx.cells; have e0 := (q _ 0 z0).trans c0; have e1 := (q _ 1 z0).trans c1; have e2 := (q _ 2 z0).trans c2; have e3 := (q _ 3 z0).trans c3; obtain ⟨y0, k0, k1, k2, k3, _, _, _, _⟩ := (Box.new w5 br nu su li 25).ext hx; clear hx q))
    have HX6 := Lib.hid hx6
    clear hx6 hx5 hx4 hx3 hx2 hx1
    go_wp2_with fail
    go_loop [12, 13] (fun s12 s13 => MidRel i0 S.size s12 s13) (fun _ s13 => toM S.size s13)
    case atStart => exact ⟨0, false, rfl, rfl, by omega, fun h => absurd h (by omega)⟩
    case round =>
      obtain ⟨i, m, rfl, rfl, hi, him⟩ := hrel
      have HIM := Lib.hid him
      clear him
      by_cases hlt : i + L.size < S.size
      · have hltI : (i : Int) + (L.size : Int) < (S.size : Int) := by omega
        have hi9 : i < S.size := by omega
        cases m with
        | true =>
          go_wp2_with fail
          exact ⟨⟨i + 1, true, rfl, rfl, by omega, fun _ => rfl⟩, by simp [toM]; omega⟩
        | false =>
          by_cases hii : i = i0
          · subst hii
            have hm2 := HM2.out hi9
            have hm3 := HM3.out
            have hb : ((S[i].toNat : Int) == 47) = true := by rw [hm2]; rfl
            clear hm2
            go_wp2_with fail
            exact ⟨⟨i + 1, true, rfl, rfl, by omega, fun _ => rfl⟩, by simp [toM]; omega⟩
          · have hno : ¬ i0 < i := fun h => by have := HIM.out h; cases this
            go_wp2_with fail
            all_goals exact ⟨⟨i + 1, _, rfl, rfl, by omega, fun h => absurd h (by omega)⟩, by simp [toM]; omega⟩
      · have hltI : ¬ (i : Int) + (L.size : Int) < (S.size : Int) := by omega
        have hmt : m = true := HIM.out (by omega)
        subst hmt
        go_wp2_with (first | (go_at_call 11; refine (lives_any _ (HE.out _ HX6.out)).mono ?_; rintro e w7 ⟨rfl, hx7⟩))
        go_ret
        exact ⟨rfl, HX6.out.trans hx7⟩
  · clear HTR
    go_enter Tryd.func5, Tryd.ntmps5
    go_upto_region 2 with (first | (go_at_call 12; refine (HP1.out _ (Ext.refl _)).mono ?_; rintro e w1 ⟨rfl, hx1⟩))
    have hx2 := hx1.alloc (.cells #[.int .i64 a, .int .i64 b, .int .i64 c', .int .i64 d] 25)
    go_upto_region 5 with (first | (go_at_call 7; refine (HD.out _).mono ?_; rintro e w3 ⟨rfl, hx⟩; have hx3 := hx2.trans hx; clear hx))
    go_upto_region 6 with (first | (go_at_call 9; refine (HT.out _ (hx3.alloc _)).mono ?_; rintro e w4 ⟨rfl, hx⟩; have hx4 := (hx3.alloc _).trans hx; have hb4 := (Box.new w3 br nu su li 25).ext hx; clear hx))
    go_upto_region 7 with (first | (go_at_call 12; refine (HP2.out _ hx4).mono ?_; rintro e w5 ⟨rfl, hx⟩; have hx5 := hx4.trans hx; have hb5 := (hb4.ext hx).ext ((Ext.refl _).alloc (.cells #[.int .i64 br, .int .i64 nu, .int .i64 su, .int .i64 li] 25)); clear hx))
    obtain ⟨z0, c0, c1, c2, c3, _, _, _, _⟩ := hb5
    have HB := Lib.hid hb4
    clear hb4
    go_upto_region 8 with (first | (go_at_call 14; refine (HL.out _ (hx5.alloc _)).mono ?_; rintro e w6 ⟨rfl, hx⟩; have hx6 := (hx5.alloc _).trans hx; obtain ⟨q, _⟩ := hx.cells; have e0 := (q _ 0 z0).trans c0; have e1 := (q _ 1 z0).trans c1; have e2 := (q _ 2 z0).trans c2; have e3 := (q _ 3 z0).trans c3; obtain ⟨y0, k0, k1, k2, k3, _, _, _, _⟩ := (Box.new w5 br nu su li 25).ext hx; clear hx q))
    have HX6 := Lib.hid hx6
    clear hx6 hx5 hx4 hx3 hx2 hx1
    go_wp2_with fail
    go_loop [12, 13] (fun s12 s13 => MidRel i0 S.size s12 s13) (fun _ s13 => toM S.size s13)
    case atStart => exact ⟨0, false, rfl, rfl, by omega, fun h => absurd h (by omega)⟩
    case round =>
      obtain ⟨i, m, rfl, rfl, hi, him⟩ := hrel
      have HIM := Lib.hid him
      clear him
      by_cases hlt : i + L.size < S.size
      · have hltI : (i : Int) + (L.size : Int) < (S.size : Int) := by omega
        have hi9 : i < S.size := by omega
        cases m with
        | true =>
          go_wp2_with fail
          exact ⟨⟨i + 1, true, rfl, rfl, by omega, fun _ => rfl⟩, by simp [toM]; omega⟩
        | false =>
          by_cases hii : i = i0
          · subst hii
            have hm2 := HM2.out hi9
            have hm3 := HM3.out
            have hb : ((S[i].toNat : Int) == 47) = true := by rw [hm2]; rfl
            clear hm2
            go_wp2_with fail
            exact ⟨⟨i + 1, true, rfl, rfl, by omega, fun _ => rfl⟩, by simp [toM]; omega⟩
          · have hno : ¬ i0 < i := fun h => by have := HIM.out h; cases this
            go_wp2_with fail
            all_goals exact ⟨⟨i + 1, _, rfl, rfl, by omega, fun h => absurd h (by omega)⟩, by simp [toM]; omega⟩
      · have hltI : ¬ (i : Int) + (L.size : Int) < (S.size : Int) := by omega
        have hmt : m = true := HIM.out (by omega)
        subst hmt
        go_wp2_with (first | (go_at_call 11; refine (lives_any _ (HE.out _ HX6.out)).mono ?_; rintro e w7 ⟨rfl, hx7⟩))
        go_ret
        exact ⟨rfl, HX6.out.trans hx7⟩
end Go.Proofs.YtbfogchdeijedaaDoor
