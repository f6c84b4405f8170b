/- The walks of the laws LexerFirst, LexerConcat. -/
import Derived.Test.YtbmcplnfamgpcaaDoorLa
namespace Go.Proofs.YtbmcplnfamgpcaaDoor
open Go Go.RowKit

theorem lexk (w : World) (hE : EnvT w) (X : ByteArray) (hX : X.size ≤ 4000) (L : List Tk) (o x : Int) (h : lexW 0 X.data.toList = ⟨L, o, x⟩) (Y : World) (hY : Ext w Y) : Calls Tryd.prog 14 #[.string X] Y (LexPost L o x Y) :=
  lex_known X L o x (by rw [lexT_small (by rw [list_size]; exact hX)]; exact h) (by omega) Y (hE.ext hY)
theorem lexW_parts (s : List UInt8) (hs : s.length ≤ 4000) : ∃ l o x, lexW 0 s = ⟨l, o, x⟩ ∧ l.length ≤ 4001 := by
  obtain ⟨l, o, x, h, hl⟩ := lex_parts s
  rw [lexT_small hs] at h
  exact ⟨l, o, x, h, hl⟩
theorem size_app (X Y : ByteArray) (c : UInt8) : (X ++ ⟨#[c]⟩ ++ Y).size = X.size + 1 + Y.size := by
  rw [← list_size, app_list, app_list, List.length_append, List.length_append, list_size, list_size]; rfl
theorem lexk_app (w : World) (hE : EnvT w) (X Y : ByteArray) (c : UInt8) (hX : X.size + 1 + Y.size ≤ 4000) (L : List Tk) (o x : Int) (h : lexW 0 (X.data.toList ++ c :: Y.data.toList) = ⟨L, o, x⟩) (Z : World) (hZ : Ext w Z) :
    Calls Tryd.prog 14 #[.string (X ++ ⟨#[c]⟩ ++ Y)] Z (LexPost L o x Z) := by
  have h1 := size_app X Y c
  have h2 : (X ++ ⟨#[c]⟩ ++ Y).data.toList = X.data.toList ++ c :: Y.data.toList := by rw [app_list, app_list, List.append_assoc]; rfl
  generalize X ++ ⟨#[c]⟩ ++ Y = S at *
  exact lexk w hE S (by omega) L o x (by rw [h2]; exact h) Z hZ
set_option maxHeartbeats 4000000 in
set_option maxRecDepth 100000 in
theorem lawFirst_any (s t : ByteArray) (w : World) (hs : s.size ≤ 281474976710656) (ht : t.size ≤ 281474976710656) (hE : EnvT w) : Calls Tryd.prog 8 #[.string s, .string t] w (BoolPost true w) := by
  have HSH := Lib.hid (fun X => short_any s 1500 X hs (by omega))
  have HTH := Lib.hid (fun X => short_any t 1500 X ht (by omega))
  have HLK := Lib.hid (lexk w hE)
  have HLA := Lib.hid (lexk_app w hE)
  have HLV := Lib.hid (fun Y (hY : Ext w Y) => lives_any Y (hE.ext hY))
  clear hE
  go_enter Tryd.func8, Tryd.ntmps8
  go_upto_region 3 with (first | (go_at_call 13; refine (HSH.out _).mono ?_; rintro e w1 ⟨X, hX, HX, rfl, rfl⟩; obtain ⟨L, o, x, hr, hL⟩ := lexW_parts X.data.toList (by rw [list_size]; omega); have H1 := Lib.hid (HLK.out X (by omega) L o x hr); have HR := Lib.hid hr; clear hr) | (go_at_call 14; refine (H1.out _ (Ext.refl _)).mono ?_; rintro e w1 ⟨A1, c1, rfl, HL1, hx1⟩))
  by_cases hx0 : x = 0
  · subst hx0
    have ho : o = 0 := by
      have := (lex_toks _ X.data.toList (Nat.le_refl _) 0 (by rw [HR.out])).1
      rw [HR.out] at this; exact this
    subst ho
    go_wp2_with (first | (go_at_call 17; refine (HLV.out _ hx1).mono ?_; rintro e w4 ⟨rfl, hx⟩; have hx4 := hx1.trans hx; clear hx))
    go_ret
    exact ⟨rfl, hx4⟩
  · have hx' : (x == 0) = false := by rw [beq_eq_false_iff_ne]; exact hx0
    obtain ⟨n, hn, ho, hf, hg⟩ := first_law (s := X.data.toList) (by rw [HR.out]; exact hx0)
    rw [HR.out] at ho
    simp only at ho
    subst ho
    rw [list_size] at hn
    have hn1 : ¬ (n : Int) < 0 := by omega
    have hn2 : ¬ (X.size : Int) ≤ (n : Int) := by omega
    obtain ⟨L2, o2, x2, hr2, hL2⟩ := lexW_parts (X.data.toList.take n) (by rw [List.length_take, list_size]; omega)
    rw [hr2] at hf
    simp only at hf
    subst hf
    have H2 := Lib.hid (HLK.out (X.extract 0 n) (by rw [ByteArray.size_extract]; omega) L2 o2 0 (by rw [extract_take]; exact hr2))
    have HG := Lib.hid (fun (Y : ByteArray) (hY : Y.size ≤ 1500) Z (hZ : Ext w Z) => HLA.out X Y 32 (by omega) L n x (by rw [hg, HR.out]) Z hZ)
    clear hx0 hr2 hg
    have hs1 : ¬ 9223372036854775807 < X.size + 1 := by omega
    go_wp2_with (first | (have hg := A3; clear hg; go_at_call 14; refine (HG.out Y hY _ hx3).mono ?_; rintro e w4 ⟨A4, c4, rfl, HL4, hx⟩; have hx4 := hx3.trans hx; clear hx) | (go_at_call 14; refine (H2.out _ hx1).mono ?_; rintro e w3 ⟨A3', c3, rfl, HL3, hx⟩; have hx3 := hx1.trans hx; clear hx) | (go_at_call 13; refine (HTH.out _).mono ?_; rintro e w5 ⟨Y, hY, HY, rfl, rfl⟩; have A3 := Lib.hid True.intro; have hs2 : ¬ 9223372036854775807 < X.size + 1 + Y.size := by omega) | (go_at_call 17; refine (HLV.out _ hx4).mono ?_; rintro e w6 ⟨rfl, hx⟩; have hx6 := hx4.trans hx; clear hx))
    go_ret
    exact ⟨rfl, hx6⟩
end Go.Proofs.YtbmcplnfamgpcaaDoor
