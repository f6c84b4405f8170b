/- The walk of the law LexerNumbers. -/
import Derived.Test.YtbmcplnfamgpcaaDoorPr
import Derived.Test.YtbmcplnfamgpcaaDoorAr
namespace Go.Proofs.YtbmcplnfamgpcaaDoor
open Go Go.RowKit

theorem dec_len9 (n : Nat) (h : n ≤ 2147483647) : (Lib.decDigits n).length ≤ 100 := by
  have h21 := Lib.itoa_length_le (n : Int) (by omega) (by omega)
  rw [itoa_nat] at h21
  omega
set_option maxHeartbeats 8000000 in
set_option maxRecDepth 100000 in
theorem lawNumbers_any (n d : Int) (w : World) (hn : -9223372036854775808 ≤ n ∧ n ≤ 9223372036854775807) (hd : -9223372036854775808 ≤ d ∧ d ≤ 9223372036854775807) (hE : EnvT w ∧ Tab w) :
    Calls Tryd.prog 12 #[.int .i64 n, .int .i64 d] w (BoolPost true w) := by
  obtain ⟨hE, hT⟩ := hE
  obtain ⟨k, hk, hk2⟩ := around_nat n 2147483648 (by omega)
  obtain ⟨y, hy, hy2⟩ := around_nat d 3652059 (by omega)
  have HA1 := Lib.hid (fun X => (show Calls Tryd.prog 18 #[.int .i64 n, .int .i64 2147483648] X (fun e X' => e = .returned (.int .i64 k) ∧ X = X') from by
    have := around_fn n 2147483648 X hn.1 hn.2 (by omega) (by omega)
    rw [show arnd n 2147483648 = (k : Int) from hk] at this; exact this))
  have HA2 := Lib.hid (fun X => (show Calls Tryd.prog 18 #[.int .i64 d, .int .i64 3652059] X (fun e X' => e = .returned (.int .i64 y) ∧ X = X') from by
    have := around_fn d 3652059 X hd.1 hd.2 (by omega) (by omega)
    rw [show arnd d 3652059 = (y : Int) from hy] at this; exact this))
  obtain ⟨S, hS⟩ : ∃ S : ByteArray, S = ⟨(Lib.decDigits k).toArray⟩ := ⟨_, rfl⟩
  obtain ⟨P, hP⟩ : ∃ S : ByteArray, S = ⟨(prL y).toArray⟩ := ⟨_, rfl⟩
  have hSl : S.data.toList = Lib.decDigits k := by rw [hS]
  have hPl : P.data.toList = prL y := by rw [hP]
  have hPs : P.size = 10 := by rw [← list_size, hPl, prL_size (by omega)]
  have hSs : S.size ≤ 100 := by rw [← list_size, hSl]; exact dec_len9 k (by omega)
  have H24 := Lib.hid (fun X => (show Calls Tryd.prog 24 #[.int .i64 k] X (fun e X' => e = .returned (.string S) ∧ X = X') from hS ▸ dec_any k X (by omega)))
  have H25 := Lib.hid (fun X (hX : Ext w X) => (show Calls Tryd.prog 25 #[.int .i64 y] X (fun e X' => e = .returned (.string P) ∧ Ext X X') from hP ▸ print_any y X (by omega) (hT.ext hX)))
  have hl1 : lexW 0 S.data.toList = ⟨[⟨2, 0, S.data.toList, k⟩, endT S.data.toList.length], 0, 0⟩ := lex_single (by rw [hSl]; exact num_tok (by omega))
  have hQl : ((⟨#[64]⟩ : ByteArray) ++ P).data.toList = 64 :: prL y := by rw [app_list, hPl]; rfl
  have hQs : ((⟨#[64]⟩ : ByteArray) ++ P).size ≤ 4000 := by rw [← list_size, hQl, List.length_cons, prL_size (by omega)]; omega
  have hl2 : lexW 0 ((⟨#[64]⟩ : ByteArray) ++ P).data.toList = ⟨[⟨3, 0, ((⟨#[64]⟩ : ByteArray) ++ P).data.toList, y⟩, endT ((⟨#[64]⟩ : ByteArray) ++ P).data.toList.length], 0, 0⟩ := lex_single (by
    rw [hQl]
    have hok := ofD_ok (d := y) (by omega)
    have := day_tok hok.1
    rw [hok.2] at this
    exact this)
  obtain ⟨Q, hQ⟩ : ∃ Q : ByteArray, Q = ⟨#[64]⟩ ++ P := ⟨_, rfl⟩
  rw [← hQ] at hl2 hQs
  obtain ⟨L1, hL1⟩ : ∃ L, L = [(⟨2, 0, S.data.toList, k⟩ : Tk), endT S.data.toList.length] := ⟨_, rfl⟩
  obtain ⟨L2, hL2⟩ : ∃ L, L = [(⟨3, 0, Q.data.toList, y⟩ : Tk), endT Q.data.toList.length] := ⟨_, rfl⟩
  rw [← hL1] at hl1
  rw [← hL2] at hl2
  have hn1 : L1.length = 2 := by rw [hL1]; rfl
  have hn2 : L2.length = 2 := by rw [hL2]; rfl
  have H1 := Lib.hid (fun X (hX : Ext w X) => lexk w hE S (by omega) _ 0 0 hl1 X hX)
  have H2 := Lib.hid (fun X (hX : Ext w X) => (show Calls Tryd.prog 14 #[.string (⟨#[64]⟩ ++ P)] X (LexPost L2 0 0 X) from by
    have := lexk w hE Q hQs _ 0 0 hl2 X hX
    rw [hQ] at this; exact this))
  unfold LexPost at H1 H2
  rw [hn1] at H1
  rw [hn2] at H2
  have HL1e := Lib.hid hL1
  have HL2e := Lib.hid hL2
  have HLV := Lib.hid (fun Y (hY : Ext w Y) => lives_any Y (hE.ext hY))
  have HQ := Lib.hid hQ
  have hq1 : ¬ 9223372036854775807 < 1 + P.size := by omega
  clear hE hT hk hy hS hP hSl hPl hSs hQl hQs hl1 hl2 hn hd hQ hPs hL1 hL2 hn1 hn2
  go_enter Tryd.func12, Tryd.ntmps12
  go_upto_region 4 with (first | (go_at_call_of 18 (Value.int IntKind.i64 n); refine (HA1.out _).mono ?_; rintro e w1 ⟨rfl, rfl⟩) | (go_at_call_of 18 (Value.int IntKind.i64 d); refine (HA2.out _).mono ?_; rintro e w1 ⟨rfl, rfl⟩) | (go_at_call 24; refine (H24.out _).mono ?_; rintro e w1 ⟨rfl, rfl⟩) | (go_at_call 14; refine (H1.out _ (Ext.refl _)).mono ?_; rintro e w1 ⟨A1, c1, rfl, HL1, hx1⟩))
  go_upto_region 5 with (first | (go_at_call 25; refine (H25.out _ hx1).mono ?_; rintro e w2 ⟨rfl, hx⟩; have hx2 := hx1.trans hx; have HL1' := Lib.hid (HL1.out.ext hx); clear hx) | (go_at_call 14; refine (H2.out _ hx2).mono ?_; rintro e w3 ⟨A2, c2, rfl, HL2, hx⟩; have hx3 := hx2.trans hx; have HL1'' := Lib.hid (HL1'.out.ext hx); clear hx))
  obtain ⟨b1, o1, t1, rfl, hb1, ht1, p0, _, _, p3⟩ := HL1''.out.tok (k := 0) (by omega)
  obtain ⟨b2, o2, t2, rfl, hb2, ht2, r0, _, r2, r3⟩ := HL2.out.tok (k := 0) (by omega)
  rw [HL1e.out] at ht1
  rw [HL2e.out] at ht2
  obtain rfl : (⟨2, 0, S.data.toList, k⟩ : Tk) = t1 := Option.some.inj ht1
  obtain rfl : (⟨3, 0, Q.data.toList, y⟩ : Tk) = t2 := Option.some.inj ht2
  simp only [Nat.zero_mul, Nat.add_zero] at p0 p3 r0 r2 r3
  have hQQ : (⟨Q.data.toList.toArray⟩ : ByteArray) = ⟨#[64]⟩ ++ P := by rw [← HQ.out]
  rw [hQQ] at r2
  clear ht1 ht2 hQQ
  go_upto_region 7 with (fail)
  have HQQ := Lib.hid (fun W (hW : Ext w3 W) => (show W.cell? ⟨b1, o1, none⟩ = some (.int .i64 2) ∧ W.cell? ⟨b1, o1 + 3, none⟩ = some (.int .i64 k) ∧ W.cell? ⟨b2, o2, none⟩ = some (.int .i64 3) ∧ W.cell? ⟨b2, o2 + 3, none⟩ = some (.int .i64 y) ∧ W.cell? ⟨b2, o2 + 2, none⟩ = some (.string (⟨#[64]⟩ ++ P)) from by
    obtain ⟨q, _⟩ := hW.cells
    exact ⟨(q _ _ hb1).trans p0, (q _ _ hb1).trans p3, (q _ _ hb2).trans r0, (q _ _ hb2).trans r3, (q _ _ hb2).trans r2⟩))
  have hcur : Ext w3 w3.drew := (Ext.refl _).drew
  have HX3 := Lib.hid hx3
  clear hx1 hx2 hx3
  go_region_held3 (fun W => W.cell? ⟨b1, o1, none⟩ = some (.int .i64 2) ∧ W.cell? ⟨b1, o1 + 3, none⟩ = some (.int .i64 k) ∧ W.cell? ⟨b2, o2, none⟩ = some (.int .i64 3) ∧ W.cell? ⟨b2, o2 + 3, none⟩ = some (.int .i64 y) ∧ W.cell? ⟨b2, o2 + 2, none⟩ = some (.string (⟨#[64]⟩ ++ P))) (first | exact HQQ.out _ hcur | go_keep)
    (first
      | (go_at_call 25; refine (H25.out _ (HX3.out.trans hcur)).mono ?_; rintro e wn ⟨rfl, hx⟩; have hcur := hcur.trans hx; clear hx)
      | (go_at_call 17; refine (HLV.out _ (HX3.out.trans hcur)).mono ?_; rintro e wn ⟨rfl, hx⟩; have hcur := hcur.trans hx; clear hx))
  go_wp2
  go_ret
  exact ⟨by simp, HX3.out.trans hcur⟩
end Go.Proofs.YtbmcplnfamgpcaaDoor
