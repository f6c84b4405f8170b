/- The walks of the laws LexerConcat and LexerShows. -/
import Derived.Test.YtbmcplnfamgpcaaDoorLb
namespace Go.Proofs.YtbmcplnfamgpcaaDoor
open Go Go.RowKit

/-- As LexPost, with the slice's capacity. -/
def LexPostC (l : List Tk) (o x : Int) (w : World) (e : Ending) (w' : World) : Prop := ∃ A c, e = .returned (.tuple #[.slice A l.length c, .int .i64 o, .int .i64 x]) ∧ Hid (SL tcf 4 w' A l.length l) ∧ Ext w w' ∧ l.length ≤ c
theorem lexkC (w : World) (hE : EnvT w) (X : ByteArray) (hX : X.size ≤ 4000) (L : List Tk) (o x : Int) (h : lexW 0 X.data.toList = ⟨L, o, x⟩) (Y : World) (hY : Ext w Y) : Calls Tryd.prog 14 #[.string X] Y (LexPostC L o x Y) := by
  refine (tokens_any X Y (by omega) (hE.ext hY).1 (hE.ext hY).2).mono ?_
  rintro e w' ⟨A, c, rfl, hsl, hx, hc⟩
  have h' : lexT X.data.toList = ⟨L, o, x⟩ := by rw [lexT_small (by rw [list_size]; exact hX)]; exact h
  rw [h'] at hsl hc ⊢
  exact ⟨A, c, rfl, Lib.hid hsl, hx, hc⟩
theorem SL.take {α : Type} {cf : α → List Value} {sz : Nat} {W : World} {A : Option Addr} {n : Nat} {l : List α} (h : SL cf sz W A n l) {m : Nat} (hm : m ≤ n) : SL cf sz W A m (l.take m) := by
  refine ⟨by rw [List.length_take, ← h.1]; omega, fun h0 => ?_⟩
  obtain ⟨b, off, e, hb, hc⟩ := h.2 (by omega)
  refine ⟨b, off, e, hb, fun i a hi => hc i a ?_⟩
  rw [List.getElem?_take] at hi
  split at hi
  · exact hi
  · cases hi
set_option maxHeartbeats 4000000 in
set_option maxRecDepth 100000 in
theorem lawConcat_any (s t : ByteArray) (w : World) (hs : s.size ≤ 281474976710656) (ht : t.size ≤ 281474976710656) (hE : EnvT w) : Calls Tryd.prog 10 #[.string s, .string t] w (BoolPost true w) := by
  have HSH := Lib.hid (fun X => short_any s 1500 X hs (by omega))
  have HTH := Lib.hid (fun X => short_any t 1500 X ht (by omega))
  have HLC := Lib.hid (lexkC w hE)
  have HLA := Lib.hid (lexk_app w hE)
  have HLV := Lib.hid (fun Y (hY : Ext w Y) => lives_any Y (hE.ext hY))
  clear hE
  go_enter Tryd.func10, Tryd.ntmps10
  go_upto_region 3 with (first | (have hg := B1; clear hg; go_at_call 13; refine (HTH.out _).mono ?_; rintro e w1 ⟨Y, hY, HY, rfl, rfl⟩) | (go_at_call 13; refine (HSH.out _).mono ?_; rintro e w1 ⟨X, hX, HX, rfl, rfl⟩; have B1 := Lib.hid True.intro))
  obtain ⟨L, o, x, hr, hL⟩ := lexW_parts X.data.toList (by rw [list_size]; omega)
  obtain ⟨M, p, y, hr2, hM⟩ := lexW_parts Y.data.toList (by rw [list_size]; omega)
  obtain ⟨N, q, z, hr3, hN⟩ := lexW_parts (X.data.toList ++ 10 :: Y.data.toList) (by rw [List.length_append, List.length_cons, list_size, list_size]; omega)
  have H1 := Lib.hid (HLC.out X (by omega) L o x hr)
  have H2 := Lib.hid (HLC.out Y (by omega) M p y hr2)
  have H3 := Lib.hid (HLA.out X Y 10 (by omega) N q z hr3)
  obtain ⟨k1, k2⟩ := concat_law X.data.toList Y.data.toList
  rw [hr, hr2, hr3] at k1 k2
  simp only at k1 k2
  have K1 := Lib.hid k1
  have K2 := Lib.hid k2
  have hs1 : ¬ 9223372036854775807 < X.size + 1 := by omega
  have hs2 : ¬ 9223372036854775807 < X.size + 1 + Y.size := by omega
  clear hr hr2 hr3 k1 k2 B1
  go_upto_region 6 with (first | (have hg := B2; clear hg; go_at_call 14; refine (H3.out _ hx2).mono ?_; rintro e w3 ⟨A3, c3, rfl, HL3, hx⟩; have hx3 := hx2.trans hx; have HL1'' := Lib.hid (HL1'.out.ext hx); have HL2' := Lib.hid (HL2.out.ext hx); clear hx) | (have hg := B1; clear hg; go_at_call 14; refine (H2.out _ hx1).mono ?_; rintro e w2 ⟨A2, c2, rfl, HL2, hx, hc2⟩; have hx2 := hx1.trans hx; have HL1' := Lib.hid (HL1.out.ext hx); have B2 := Lib.hid True.intro; clear hx) | (go_at_call 14; refine (H1.out _ (Ext.refl _)).mono ?_; rintro e w1 ⟨A1, c1, rfl, HL1, hx1, hc1⟩; have B1 := Lib.hid True.intro))
  clear B1 B2 H1 H2 H3
  by_cases h1 : x = 0
  · by_cases h2 : y = 0
    · obtain ⟨hz, l, hl, ht⟩ := K2.out h1 h2
      subst h1 h2 hz
      subst hl
      have HT := Lib.hid ht
      clear ht
      obtain ⟨m, hm⟩ : ∃ m, m = l.length := ⟨_, rfl⟩
      have hlen : (l ++ [endT X.data.toList.length]).length = m + 1 := by rw [List.length_append, hm]; rfl
      rw [hlen] at HL1'' hc1 hL ⊢
      have hsl : SL tcf 4 w3 A1 m l := by
        have := HL1''.out.take (m := m) (by omega)
        rw [List.take_append_of_le_length (by omega), hm, List.take_length] at this
        rw [hm]; exact this
      obtain ⟨A5, c5, w5, hrun5, ho5, hb5, _⟩ := ap23 (OL.nil w3 w3.heap.size 36) hsl c1 (by rw [List.length_nil]; omega) (Nat.le_refl _)
      have hx5 : Ext w3 w5 := hb5 _ (Nat.le_refl _)
      rw [List.length_nil, Nat.zero_add] at hrun5 ho5
      rw [List.nil_append] at ho5
      obtain ⟨A6, c6, w6, hrun6, ho6, hb6, _⟩ := ap23 ho5 (HL2'.out.ext hx5) c2 (by omega) hx5.lt
      have hx6 : Ext w3 w6 := Below.trans hx5 (hb6 _ (Nat.le_refl _))
      rw [← hm] at hrun6 ho6
      obtain ⟨A9, c9, e9, _, hs9⟩ := OL.form tcf_len ho6
      injection e9 with e1 e2 e3
      subst e1 e3
      have HS9 := Lib.hid hs9
      have HL3' := Lib.hid (HL3.out.ext hx6)
      have HX6 := Lib.hid (hx3.trans hx6)
      have hmn : (l ++ M).length = m + M.length := by rw [List.length_append, hm]
      rw [hmn] at HS9
      have HMN := Lib.hid hmn.symm
      clear hs9 ho6 ho5 hb5 hb6 hx5 hx6 hsl hlen hm hmn e2
      have hni : ¬ ((m : Int) + 1 = 0) := by omega
      go_wp2_with (first | (at_builtin; refine wpList_append_run (s := .tmp 56) (x := .tmp 61) hrun5 rfl rfl rfl rfl rfl ?_) | (at_builtin; refine wpList_append_run (s := .tmp 63) (x := .tmp 64) hrun6 rfl rfl rfl rfl rfl ?_) | (go_at_call 21; refine (alike_true _ _ _ _ _ _ _ _ _ rfl HMN.out (by omega) (by omega) HL3'.out HS9.out HT.out).mono ?_; rintro e w7 ⟨rfl, hx⟩; have hx7 := HX6.out.trans hx; clear hx) | (go_at_call 17; refine (HLV.out _ hx7).mono ?_; rintro e w8 ⟨rfl, hx⟩; have hx8 := hx7.trans hx; clear hx))
      go_ret
      exact ⟨rfl, hx8⟩
    · have hz := K1.out (.inr h2)
      have gz : (z != 0) = true := by rw [bne_iff_ne]; exact hz
      have g2 : (y != 0) = true := by rw [bne_iff_ne]; exact h2
      subst h1
      clear h2 hz
      go_wp2_with (first | (go_at_call 17; refine (HLV.out _ hx3).mono ?_; rintro e w8 ⟨rfl, hx⟩; have hx8 := hx3.trans hx; clear hx))
      go_ret
      exact ⟨rfl, hx8⟩
  · have hz := K1.out (.inl h1)
    have gz : (z != 0) = true := by rw [bne_iff_ne]; exact hz
    have g1 : (x != 0) = true := by rw [bne_iff_ne]; exact h1
    clear h1 hz
    go_wp2_with (first | (go_at_call 17; refine (HLV.out _ hx3).mono ?_; rintro e w8 ⟨rfl, hx⟩; have hx8 := hx3.trans hx; clear hx))
    go_ret
    exact ⟨rfl, hx8⟩
set_option maxHeartbeats 4000000 in
set_option maxRecDepth 100000 in
theorem lawShows_any (A : Option Addr) (c : Nat) (l : List Tk) (w : World) (hc : l.length ≤ c) (ht : tot l ≤ 10000000) (h : SL tcf 4 w A l.length l) (hE : EnvT w) : Calls Tryd.prog 5 #[.slice A l.length c] w (BoolPost true w) := by
  have HLV := Lib.hid (fun Y (hY : Ext w Y) => lives_any Y (hE.ext hY))
  have htk : tot (l.take 200) ≤ 10000000 := by
    have := tot_app (l.take 200) (l.drop 200)
    rw [List.take_append_drop] at this; omega
  have hlt : l.length ≤ 10000000 := Nat.le_trans (len_tot l) ht
  obtain ⟨f, hf⟩ : ∃ f, f = l.take 200 := ⟨_, rfl⟩
  have hsf : SL tcf 4 w A f.length f := by
    by_cases hl : 200 ≤ l.length
    · have := h.take hl
      rw [← hf] at this
      have e : f.length = 200 := by rw [hf, List.length_take]; omega
      rw [e]; exact this
    · rw [hf, List.take_of_length_le (by omega)]; exact h
  have hfl : f.length = min l.length 200 := by rw [hf, List.length_take]; omega
  rw [← hf] at htk
  have HS := Lib.hid hsf
  obtain ⟨S, hS⟩ : ∃ S : ByteArray, S = ⟨(showP f).toArray⟩ := ⟨_, rfl⟩
  have H19 := Lib.hid (fun c' Y (hY : Ext w Y) => (show Calls Tryd.prog 19 #[.slice A f.length c'] Y (fun e Y' => e = .returned (.string S) ∧ Ext Y Y') from by
    have := lshow_any A c' f Y htk (hsf.ext hY)
    unfold StrPost at this; rw [← hS] at this; exact this))
  have H20 := Lib.hid (fun c' Y (hY : Ext w Y) => (show Calls Tryd.prog 20 #[.slice A f.length c'] Y (fun e Y' => e = .returned (.string S) ∧ Ext Y Y') from by
    have := rshow_any A c' f Y htk (hsf.ext hY)
    unfold StrPost at this; rw [← hS] at this; exact this))
  clear hE hsf h hS
  by_cases hl : 200 ≤ l.length
  · have hmn : min (l.length : Int) 200 = 200 := by omega
    have e : f.length = 200 := by omega
    rw [e] at H19 H20
    have hc2 : 200 ≤ c := by omega
    clear e hfl hf
    go_enter Tryd.func5, Tryd.ntmps5
    go_wp2_with (first | (go_at_call 19; refine (H19.out _ _ (Ext.refl _)).mono ?_; rintro e w1 ⟨rfl, hx1⟩) | (go_at_call 20; refine (H20.out _ _ hx1).mono ?_; rintro e w2 ⟨rfl, hx⟩; have hx2 := hx1.trans hx; clear hx) | (go_at_call 17; refine (HLV.out _ hx2).mono ?_; rintro e w8 ⟨rfl, hx⟩; have hx8 := hx2.trans hx; clear hx))
    go_ret
    exact ⟨by simp, hx8⟩
  · have hmn : min (l.length : Int) 200 = (l.length : Int) := by omega
    have e : f.length = l.length := by omega
    rw [e] at H19 H20
    clear e hfl hf hl
    go_enter Tryd.func5, Tryd.ntmps5
    go_wp2_with (first | (go_at_call 19; refine (H19.out _ _ (Ext.refl _)).mono ?_; rintro e w1 ⟨rfl, hx1⟩) | (go_at_call 20; refine (H20.out _ _ hx1).mono ?_; rintro e w2 ⟨rfl, hx⟩; have hx2 := hx1.trans hx; clear hx) | (go_at_call 17; refine (HLV.out _ hx2).mono ?_; rintro e w8 ⟨rfl, hx⟩; have hx8 := hx2.trans hx; clear hx))
    go_ret
    exact ⟨by simp, hx8⟩
end Go.Proofs.YtbmcplnfamgpcaaDoor
