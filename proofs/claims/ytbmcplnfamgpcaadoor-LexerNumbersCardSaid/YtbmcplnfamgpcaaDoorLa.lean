/- The walks of the laws LexerTokens, LexerRound, LexerFirst. -/
import Derived.Test.YtbmcplnfamgpcaaDoorLv
import Derived.Test.YtbmcplnfamgpcaaDoorPlain5
namespace Go.Proofs.YtbmcplnfamgpcaaDoor
open Go Go.RowKit

theorem rlex_known (s : ByteArray) (l : List Tk) (o x : Int) (h : lexT s.data.toList = ⟨l, o, x⟩) (hs : s.size ≤ 281474976710656) (X : World) : Calls Tryd.prog 15 #[.string s] X (LexPost l o x X) := by
  refine (rtokens_any s X hs).mono ?_
  rintro e w' ⟨A, c, rfl, hsl, hx, _⟩
  rw [h] at hsl ⊢
  exact ⟨A, c, rfl, Lib.hid hsl, hx⟩
theorem lex_parts (s : List UInt8) : ∃ l o x, lexT s = ⟨l, o, x⟩ ∧ l.length ≤ 4001 := ⟨_, _, _, rfl, lexT_len s⟩
theorem same_self (A B : Option Addr) (c d n : Nat) (l : List Tk) (w : World) (hn : n = l.length) (ha : n ≤ 4001) (h : SL tcf 4 w A n l) (h' : SL tcf 4 w B n l) : Calls Tryd.prog 16 #[.slice A n c, .slice B n d] w (BoolPost true w) := by
  subst hn
  have := same_any A B c d l l w (by omega) (by omega) h h'
  rw [show decide (l = l) = true by simp] at this
  exact this
theorem alike_true (A B : Option Addr) (c d n m : Nat) (a b : List Tk) (w : World) (hn : n = a.length) (hm : m = b.length) (ha : n ≤ 10000) (hb : m ≤ 10000) (h : SL tcf 4 w A n a) (h' : SL tcf 4 w B m b) (he : a.map tri = b.map tri) : Calls Tryd.prog 21 #[.slice A n c, .slice B m d] w (BoolPost true w) := by
  subst hn hm
  have := alike_any A B c d a b w (by omega) (by omega) h h'
  rw [show decide (a.map tri = b.map tri) = true from decide_eq_true he] at this
  exact this
set_option maxHeartbeats 4000000 in
set_option maxRecDepth 100000 in
theorem lawTokens_any (s : ByteArray) (w : World) (hs : s.size ≤ 281474976710656) (hE : EnvT w) : Calls Tryd.prog 3 #[.string s] w (BoolPost true w) := by
  have HE := Lib.hid (fun X (hX : Ext w X) => hE.ext hX)
  have HSH := Lib.hid (fun X => short_any s 5000 X hs (by omega))
  clear hE
  go_enter Tryd.func3, Tryd.ntmps3
  go_upto_region 2 with (first | (go_at_call 13; refine (HSH.out _).mono ?_; rintro e w1 ⟨X, hX, HX, rfl, rfl⟩))
  obtain ⟨L, o, x, hr, hL⟩ := lex_parts X.data.toList
  have H14 := Lib.hid (fun Y (hY : Ext w Y) => lex_known X L o x hr (by omega) Y (HE.out Y hY))
  have H15 := Lib.hid (fun Y => rlex_known X L o x hr (by omega) Y)
  clear hr
  obtain ⟨n, hn⟩ : ∃ n, n = L.length := ⟨_, rfl⟩
  unfold LexPost at H14 H15
  rw [← hn] at H14 H15 hL
  have HN := Lib.hid hn
  clear hn
  go_wp2_with (first
    | (go_at_call 14; refine (H14.out _ (Ext.refl _)).mono ?_; rintro e w1 ⟨A1, c1, rfl, HL1, hx1⟩)
    | (go_at_call 15; refine (H15.out _).mono ?_; rintro e w2 ⟨A2, c2, rfl, HL2, hx⟩; have hx2 := hx1.trans hx; have HL1' := Lib.hid (HL1.out.ext hx); clear hx HL1)
    | (go_at_call 16; refine (same_self _ _ _ _ _ _ _ HN.out hL HL1'.out HL2.out).mono ?_; rintro e w3 ⟨rfl, hx⟩; have hx3 := hx2.trans hx; clear hx)
    | (go_at_call 17; refine (lives_any _ (HE.out _ hx3)).mono ?_; rintro e w4 ⟨rfl, hx⟩; have hx4 := hx3.trans hx; clear hx))
  go_ret
  exact ⟨rfl, hx4⟩
set_option maxHeartbeats 4000000 in
set_option maxRecDepth 100000 in
theorem lawRound_any (s : ByteArray) (w : World) (hs : s.size ≤ 281474976710656) (hE : EnvT w) : Calls Tryd.prog 6 #[.string s] w (BoolPost true w) := by
  have HE := Lib.hid (fun X (hX : Ext w X) => hE.ext hX)
  have HSH := Lib.hid (fun X => short_any s 2000 X hs (by omega))
  have H14 := Lib.hid (fun (X : ByteArray) (hX : X.size ≤ 4000) L o x (h : lexT X.data.toList = ⟨L, o, x⟩) Y (hY : Ext w Y) => lex_known X L o x h (by omega) Y (HE.out Y hY))
  have HLV := Lib.hid (fun Y (hY : Ext w Y) => lives_any Y (HE.out Y hY))
  clear hE
  go_enter Tryd.func6, Tryd.ntmps6
  go_upto_region 2 with (first | (go_at_call 13; refine (HSH.out _).mono ?_; rintro e w1 ⟨X, hX, HX, rfl, rfl⟩; obtain ⟨L, o, x, hr, hL⟩ := lex_parts X.data.toList; have H1 := Lib.hid (H14.out X (by omega) L o x hr); have HR := Lib.hid hr; clear hr) | (go_at_call 14; refine (H1.out _ (Ext.refl _)).mono ?_; rintro e w1 ⟨A1, c1, rfl, HL1, hx1⟩))
  by_cases hx0 : x = 0
  · subst hx0
    have hXl : X.data.toList.length ≤ 4000 := by rw [list_size]; omega
    have hlw : lexW 0 X.data.toList = ⟨L, o, 0⟩ := by rw [← HR.out, lexT_small hXl]
    have hrl := round_law (s := X.data.toList) (by rw [hlw])
    have htl : tot L ≤ 5000 := by
      have := (lex_len _ X.data.toList (Nat.le_refl _) 0).2
      rw [hlw, list_size] at this
      have h2 : tot L ≤ 2 * X.size + 1 := this
      omega
    rw [hlw] at hrl
    obtain ⟨S, hS⟩ : ∃ S : ByteArray, S = ⟨(showP L).toArray⟩ := ⟨_, rfl⟩
    have hSl : S.data.toList = showP L := by rw [hS]
    have HSW := Lib.hid (show ∀ Y, Ext w1 Y → Calls Tryd.prog 19 #[.slice A1 L.length c1] Y (fun e Y' => e = .returned (.string S) ∧ Ext Y Y') from fun Y hY => by
      have := lshow_any A1 c1 L Y (by omega) (HL1.out.ext hY)
      unfold StrPost at this; rw [← hS] at this; exact this)
    clear hlw hXl hS
    by_cases hbig : 4000 < S.size
    · have hb' : (4000 : Int) < (S.size : Int) := by omega
      clear hrl hSl
      go_wp2_with (first
        | (go_at_call 19; refine (HSW.out _ (Ext.refl _)).mono ?_; rintro e w2 ⟨rfl, hx⟩; have hx2 := hx1.trans hx; clear hx)
        | (go_at_call 17; refine (HLV.out _ hx2).mono ?_; rintro e w4 ⟨rfl, hx⟩; have hx4 := hx2.trans hx; clear hx))
      go_ret
      exact ⟨rfl, hx4⟩
    · have hb' : ¬ (4000 : Int) < (S.size : Int) := by omega
      obtain ⟨M, o2, x2, hm, hM⟩ := lex_parts S.data.toList
      have hlw2 : lexW 0 (showP L) = ⟨M, o2, x2⟩ := by rw [← hSl, ← hm, lexT_small (by rw [list_size]; omega)]
      rw [hlw2] at hrl
      obtain ⟨hx20, ho2, htri⟩ := hrl
      simp only at hx20 ho2 htri
      subst hx20 ho2
      have H2 := Lib.hid (H14.out S (by omega) M 0 0 hm)
      have HT := Lib.hid htri.symm
      clear htri hlw2 hm hSl
      go_wp2_with (first
        | (go_at_call 19; refine (HSW.out _ (Ext.refl _)).mono ?_; rintro e w2 ⟨rfl, hx⟩; have hx2 := hx1.trans hx; have HL1' := Lib.hid (HL1.out.ext hx); clear hx)
        | (go_at_call 14; refine (H2.out _ hx2).mono ?_; rintro e w3 ⟨A3, c3, rfl, HL3, hx⟩; have hx3 := hx2.trans hx; have HL1'' := Lib.hid (HL1'.out.ext hx); clear hx)
        | (go_at_call 21; refine (alike_true _ _ _ _ _ _ _ _ _ rfl rfl (by omega) (by omega) HL1''.out HL3.out HT.out).mono ?_; rintro e w4 ⟨rfl, hx⟩; have hx4 := hx3.trans hx; clear hx)
        | (go_at_call 17; refine (HLV.out _ hx4).mono ?_; rintro e w5 ⟨rfl, hx⟩; have hx5 := hx4.trans hx; clear hx))
      go_ret
      exact ⟨rfl, hx5⟩
  · have hx' : (x == 0) = false := by rw [beq_eq_false_iff_ne]; exact hx0
    clear hx0
    go_wp2_with (first | (go_at_call 17; refine (HLV.out _ hx1).mono ?_; rintro e w4 ⟨rfl, hx⟩; have hx4 := hx1.trans hx; clear hx))
    go_ret
    exact ⟨rfl, hx4⟩
end Go.Proofs.YtbmcplnfamgpcaaDoor
