/- The law of Show walked. -/
import Derived.Test.YtnpenepdechkjaaGreatDoorVd
import Derived.Test.YtnpenepdechkjaaGreatDoorKe
import Derived.Test.YtnpenepdechkjaaGreatDoorQr
namespace Go.Proofs.YtnpenepdechkjaaGreatDoor
open Go Go.RowKit

theorem ZN7 : ZN 7 = 3280 := by decide
set_option maxHeartbeats 2000000 in
set_option maxRecDepth 100000 in
theorem shows_any (A : Option Addr) (c : Nat) (l : List Int) (w : World) (hc : l.length ≤ c) (hc2 : c ≤ 9223372036854775807) (hb : ∀ n ∈ l, -9223372036854775808 ≤ n ∧ n ≤ 9223372036854775807) (h : SL icf 1 w A l.length l) (hE : EnvP w) :
    Calls Tryz.prog 6 #[.slice A l.length c] w (BQ2 true w) := by
  have HE := Lib.hid hE
  have HLV := Lib.hid (fun X (hX : Ext w X) => lives_any X (hE.ext hX))
  have HTR := Lib.hid (tree_any 7 (by decide) A c l w hb hc hc2 h)
  clear h hb hE
  go_enter Tryz.func6, Tryz.ntmps6
  go_upto_region 2 with (first | (go_at_call 25; refine (HTR.out).mono ?_; rintro e w1 ⟨d, t, rfl, hr, hg, hx1⟩; have HR1 := Lib.hid hr; have HG := Lib.hid hg; have HX1 := Lib.hid hx1; clear hr hg hx1))
  have hx2 : Ext w1 (w1.alloc (.cells #[.int .i64 d.k, .int .i64 d.n, .string d.s, .slice d.A d.m d.c] 31)) := (Ext.refl _).alloc _
  have hn2 : NX (w1.alloc (.cells #[.int .i64 d.k, .int .i64 d.n, .string d.s, .slice d.A d.m d.c] 31)) w1.heap.size d.k d.n d.s (.slice d.A d.m d.c) := heap_alloc_new _ _
  generalize w1.alloc (.cells #[.int .i64 d.k, .int .i64 d.n, .string d.s, .slice d.A d.m d.c] 31) = w2 at *
  generalize w1.heap.size = g3 at *
  have HX2 := Lib.hid (HX1.out.trans hx2)
  have HR2 := Lib.hid (HR1.out.ext hx2)
  have hts : tsz t ≤ 3280 := by have := HG.out.2; rw [ZN7] at this; exact this
  have hgt := HG.out.1.gt
  have hsb := shB_tsz hgt
  obtain ⟨S, hS⟩ : ∃ S, S = bs (showT t) := ⟨_, rfl⟩
  have HSH := Lib.hid (fun X (hX : Ext w2 X) => (show Calls Tryz.prog 26 #[.agg #[.int .i64 d.k, .int .i64 d.n, .string d.s, .slice d.A d.m d.c]] X (fun e X' => e = .returned (.string S) ∧ Ext X X') from by
    have h9 := pshow_any 4000 t d _ X (by omega) hgt (by omega) (HR2.out.ext hX) (HE.out.2.ext (HX2.out.trans hX))
    unfold StrPost at h9
    rw [hS]; exact h9))
  have HSR := Lib.hid (fun X (hX : Ext w2 X) => (show Calls Tryz.prog 27 #[.agg #[.int .i64 d.k, .int .i64 d.n, .string d.s, .slice d.A d.m d.c]] X (fun e X' => e = .returned (.string S) ∧ Ext X X') from by
    have h9 := rshow_any 4000 t d _ X (by omega) hgt (by omega) (HR2.out.ext hX) (HE.out.2.ext (HX2.out.trans hX))
    unfold StrPost at h9
    rw [hS]; exact h9))
  have HN2 := Lib.hid hn2
  clear hx2 hS hts hgt hsb HR1 hn2
  have HQ := Lib.hid (fun X (hX : Ext w2 X) => (show X.cell? ⟨g3, 0, none⟩ = some (.int .i64 d.k) ∧ X.cell? ⟨g3, 1, none⟩ = some (.int .i64 d.n) ∧ X.cell? ⟨g3, 2, none⟩ = some (.string d.s) ∧ X.cell? ⟨g3, 3, none⟩ = some (.slice d.A d.m d.c) from by
    obtain ⟨_, k0, k1, k2, k3, _, _, _, _⟩ := HN2.out.nb
    exact ⟨cells_ext k0 hX, cells_ext k1 hX, cells_ext k2 hX, cells_ext k3 hX⟩))
  obtain ⟨k0, k1, k2, k3⟩ := HQ.out w2 (Ext.refl _)
  have hcur : Ext w2 w2.drew := (Ext.refl _).drew
  have hss : (S.toList == S.toList) = true := beq_self_eq_true _
  go_region_held3 (fun X => X.cell? ⟨g3, 0, none⟩ = some (.int .i64 d.k) ∧ X.cell? ⟨g3, 1, none⟩ = some (.int .i64 d.n) ∧ X.cell? ⟨g3, 2, none⟩ = some (.string d.s) ∧ X.cell? ⟨g3, 3, none⟩ = some (.slice d.A d.m d.c)) (first | exact HQ.out _ hcur | go_keep)
    (first
      | (go_at_call 26; refine (HSH.out _ hcur).mono ?_; rintro e wn ⟨rfl, hx⟩; have hcur := hcur.trans hx; clear hx)
      | (go_at_call 27; refine (HSR.out _ hcur).mono ?_; rintro e wn ⟨rfl, hx⟩; have hcur := hcur.trans hx; clear hx)
      | (go_at_call 17; refine (HLV.out _ (HX2.out.trans hcur)).mono ?_; rintro e wn ⟨rfl, hx⟩; have hcur := hcur.trans hx; clear hx))
  go_wp2
  go_ret
  exact ⟨rfl, HX2.out.trans hcur⟩
end Go.Proofs.YtnpenepdechkjaaGreatDoor
