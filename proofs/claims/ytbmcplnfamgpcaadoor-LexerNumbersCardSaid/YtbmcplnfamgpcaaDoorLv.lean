/- The contract of the law's 'lives'. -/
import Derived.Test.YtbmcplnfamgpcaaDoorExs
namespace Go.Proofs.YtbmcplnfamgpcaaDoor
open Go Go.RowKit

set_option maxHeartbeats 4000000 in
set_option maxRecDepth 100000 in
theorem lives_any (w : World) (hE : EnvT w) : Calls Tryd.prog 17 #[] w (BoolPost true w) := by
  have HE := Lib.hid (fun X (hX : Ext w X) => hE.ext hX)
  clear hE
  have H1 := Lib.hid (fun X (hX : Ext w X) => (show Calls Tryd.prog 14 #[.string ⟨#[105, 102, 32, 120, 49, 60, 61, 50, 48, 32, 35, 32, 53]⟩] X (LexPost exL 0 0 X) from lex_known _ _ _ _ exa (by decide) X (HE.out X hX)))
  have H2 := Lib.hid (fun X (hX : Ext w X) => (show Calls Tryd.prog 14 #[.string ⟨#[64, 48, 48, 48, 49, 45, 48, 49, 45, 48, 50]⟩] X (LexPost exD 0 0 X) from lex_known _ _ _ _ exb (by decide) X (HE.out X hX)))
  go_enter Tryd.func17, Tryd.ntmps17
  go_upto_region 2 with (first | (go_at_call 14; refine (H1.out _ (Ext.refl _)).mono ?_; rintro e w1 ⟨A1, c1, rfl, HL1, hx1⟩))
  go_upto_region 3 with (first | (go_at_call 14; refine (H2.out _ hx1).mono ?_; rintro e w2 ⟨A2, c2, rfl, HL2, hx⟩; have hx2 := hx1.trans hx; have HL1' := Lib.hid (HL1.out.ext hx); clear hx HL1))
  rw [show exL.length = 5 from rfl] at HL1' ⊢
  rw [show exD.length = 2 from rfl] at HL2 ⊢
  obtain ⟨b2, o2, t2, rfl, hb2, ht2, p0, _, _, p3⟩ := HL2.out.tok (k := 0) (by omega)
  obtain rfl : (⟨3, 0, [64, 48, 48, 48, 49, 45, 48, 49, 45, 48, 50], 1⟩ : Tk) = t2 := Option.some.inj ht2
  simp only [Nat.zero_mul, Nat.add_zero] at p0 p3
  clear ht2
  go_upto_region 6 with (fail)
  have HXD := Lib.hid hx2
  have hW := want_sl w2
  have hx3 : Ext w (w2.alloc (.cells #[.int .i64 1, .int .i64 0, .string ⟨#[105, 102]⟩, .int .i64 0, .int .i64 1, .int .i64 3, .string ⟨#[120, 49]⟩, .int .i64 0, .int .i64 4, .int .i64 5, .string ⟨#[60, 61]⟩, .int .i64 0, .int .i64 2, .int .i64 7, .string ⟨#[50, 48]⟩, .int .i64 20, .int .i64 0, .int .i64 13, .string ⟨#[]⟩, .int .i64 0] 36)) := hx2.alloc _
  have HSM := Lib.hid (same_any A1 (some ⟨w2.heap.size, 0, none⟩) c1 5 exL exL (w2.alloc (.cells #[.int .i64 1, .int .i64 0, .string ⟨#[105, 102]⟩, .int .i64 0, .int .i64 1, .int .i64 3, .string ⟨#[120, 49]⟩, .int .i64 0, .int .i64 4, .int .i64 5, .string ⟨#[60, 61]⟩, .int .i64 0, .int .i64 2, .int .i64 7, .string ⟨#[50, 48]⟩, .int .i64 20, .int .i64 0, .int .i64 13, .string ⟨#[]⟩, .int .i64 0] 36)) (by decide) (by decide) (HL1'.out.ext ((Ext.refl _).alloc _)) hW)
  obtain ⟨S, hS⟩ : ∃ S : ByteArray, S = ⟨#[105, 102, 32, 120, 49, 32, 60, 61, 32, 50, 48]⟩ := ⟨_, rfl⟩
  have HSH := Lib.hid (fun X (hX : Ext w2 X) => (show Calls Tryd.prog 19 #[.slice A1 5 c1] X (fun e X' => e = .returned (.string S) ∧ Ext X X') from by
    have := lshow_any A1 c1 exL X (by decide) (HL1'.out.ext hX)
    unfold StrPost at this; rw [exs] at this; rw [hS]; exact this))
  have tS : (S.toList == [105, 102, 32, 120, 49, 32, 60, 61, 32, 50, 48]) = true := by rw [hS, ByteArray.toList_eq]; rfl
  clear hS
  rw [show decide (exL = exL) = true by simp, show exL.length = 5 from rfl] at HSM
  clear hW
  go_upto_region 8 with (first | (go_at_call 16; refine HSM.out.mono ?_; rintro e w3 ⟨rfl, hx⟩; have hx4 := hx3.trans hx; have hy4 := ((Ext.refl w2).alloc _).trans hx; clear hx) | (go_at_call 19; refine (HSH.out _ hy4).mono ?_; rintro e w4 ⟨rfl, hx⟩; have hx5 := hx4.trans hx; clear hx))
  have HX0 := Lib.hid hx5
  clear hx5 hx4 hy4 hx3 hx2 hx1 HSM HSH HXD H1 H2
  have W0 := Lib.hid (fun X (hX : Ext w X) => (show Calls Tryd.prog 37 #[.string ⟨#[97, 32, 48, 48, 55]⟩, .int .i64 2, .int .i64 20] X (BoolPost true X) from wrong_true _ _ _ exw0 X (by decide) (HE.out X hX)))
  have W1 := Lib.hid (fun X (hX : Ext w X) => (show Calls Tryd.prog 37 #[.string ⟨#[97, 32, 50, 49, 52, 55, 52, 56, 51, 54, 52, 56]⟩, .int .i64 2, .int .i64 5] X (BoolPost true X) from wrong_true _ _ _ exw1 X (by decide) (HE.out X hX)))
  have W2 := Lib.hid (fun X (hX : Ext w X) => (show Calls Tryd.prog 37 #[.string ⟨#[64, 50, 48, 50, 54, 45, 48, 50, 45, 51, 48]⟩, .int .i64 0, .int .i64 5] X (BoolPost true X) from wrong_true _ _ _ exw2 X (by decide) (HE.out X hX)))
  have W3 := Lib.hid (fun X (hX : Ext w X) => (show Calls Tryd.prog 37 #[.string ⟨#[64, 50, 48, 50, 54, 45, 50, 45, 51]⟩, .int .i64 0, .int .i64 20] X (BoolPost true X) from wrong_true _ _ _ exw3 X (by decide) (HE.out X hX)))
  have W4 := Lib.hid (fun X (hX : Ext w X) => (show Calls Tryd.prog 37 #[.string ⟨#[120, 32, 33, 32, 121]⟩, .int .i64 2, .int .i64 20] X (BoolPost true X) from wrong_true _ _ _ exw4 X (by decide) (HE.out X hX)))
  have W5 := Lib.hid (fun X (hX : Ext w X) => (show Calls Tryd.prog 37 #[.string ⟨#[97, 98, 99, 100, 101, 102, 103, 104, 105, 106, 107, 108, 109]⟩, .int .i64 0, .int .i64 2] X (BoolPost true X) from wrong_true _ _ _ exw5 X (by decide) (HE.out X hX)))
  have W6 := Lib.hid (fun X (hX : Ext w X) => (show Calls Tryd.prog 37 #[.string ⟨#[97, 66]⟩, .int .i64 1, .int .i64 20] X (BoolPost true X) from wrong_true _ _ _ exw6 X (by decide) (HE.out X hX)))
  go_wp2_with (first | (have hg := HX6; clear hg; go_at_call 37; refine (W6.out _ HX6.out).mono ?_; rintro e wx ⟨rfl, hx⟩; have HX7 := Lib.hid (HX6.out.trans hx); clear hx) | (have hg := HX5; clear hg; go_at_call 37; refine (W5.out _ HX5.out).mono ?_; rintro e wx ⟨rfl, hx⟩; have HX6 := Lib.hid (HX5.out.trans hx); clear hx) | (have hg := HX4; clear hg; go_at_call 37; refine (W4.out _ HX4.out).mono ?_; rintro e wx ⟨rfl, hx⟩; have HX5 := Lib.hid (HX4.out.trans hx); clear hx) | (have hg := HX3; clear hg; go_at_call 37; refine (W3.out _ HX3.out).mono ?_; rintro e wx ⟨rfl, hx⟩; have HX4 := Lib.hid (HX3.out.trans hx); clear hx) | (have hg := HX2; clear hg; go_at_call 37; refine (W2.out _ HX2.out).mono ?_; rintro e wx ⟨rfl, hx⟩; have HX3 := Lib.hid (HX2.out.trans hx); clear hx) | (have hg := HX1; clear hg; go_at_call 37; refine (W1.out _ HX1.out).mono ?_; rintro e wx ⟨rfl, hx⟩; have HX2 := Lib.hid (HX1.out.trans hx); clear hx) | (have hg := HX0; clear hg; go_at_call 37; refine (W0.out _ HX0.out).mono ?_; rintro e wx ⟨rfl, hx⟩; have HX1 := Lib.hid (HX0.out.trans hx); clear hx))
  go_ret
  exact ⟨rfl, HX7.out⟩
end Go.Proofs.YtbmcplnfamgpcaaDoor
