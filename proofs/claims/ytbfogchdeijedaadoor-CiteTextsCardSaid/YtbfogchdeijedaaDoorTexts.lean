/- The walk of the law CiteTexts. -/
import Derived.Test.YtbfogchdeijedaaDoorLives
import Derived.Test.YtbfogchdeijedaaDoorRTxt
namespace Go.Proofs.YtbfogchdeijedaaDoor
open Go Go.RowKit

theorem ctext4 (a b c d : Int) (w : World) (htab : Tab w) : Calls Tryd.prog 9 #[.agg #[.int .i64 a, .int .i64 b, .int .i64 c, .int .i64 d]] w (StrPost (textP ⟨a, b, c, d⟩) w) := ctext_any ⟨a, b, c, d⟩ w htab
theorem rtext4 (a b c d : Int) (w : World) : Calls Tryd.prog 10 #[.agg #[.int .i64 a, .int .i64 b, .int .i64 c, .int .i64 d]] w (StrPost (textP ⟨a, b, c, d⟩) w) := rtext_any ⟨a, b, c, d⟩ w
def SmRel (w1 : World) (a b c d : Int) (s6 : Value) (wx : World) : Prop :=
  ∃ (bs : Nat), s6 = .pointer (some ⟨bs, 0, none⟩) ∧ Box wx bs a b c d ∧ Ext w1 wx
set_option maxHeartbeats 4000000 in
set_option maxRecDepth 100000 in
theorem texts_any (c : Ct) (n : Int) (w : World) (hE : Env w) (hc : (-9223372036854775808 ≤ c.br ∧ c.br ≤ 9223372036854775807) ∧ (-9223372036854775808 ≤ c.li ∧ c.li ≤ 9223372036854775807)) (hn : -9223372036854775808 ≤ n ∧ n ≤ 9223372036854775807) :
    Calls Tryd.prog 3 #[c.val, .int .i64 n] w (BoolPost true w) := by
  obtain ⟨br, nu, su, li⟩ := c
  unfold Ct.val
  simp only at hc ⊢
  have HE := Lib.hid (fun X (hX : Ext w X) => hE.ext hX)
  have HD := Lib.hid (fun X => cite_any n X hn.1 hn.2)
  have HR1 := Lib.hid (arnd_in br 260 (by omega))
  have HR2 := Lib.hid (arnd_in li 104 (by omega))
  obtain ⟨⟨m1, m2⟩, m3, m4⟩ := hc
  obtain ⟨dc, hdc⟩ : ∃ d, d = citOf n := ⟨_, rfl⟩
  obtain ⟨db, dn, ds, dl⟩ := dc
  have HDC := Lib.hid (fun X => (show Calls Tryd.prog 7 #[.int .i64 n] X (fun e X' => e = .returned (.agg #[.int .i64 db, .int .i64 dn, .int .i64 ds, .int .i64 dl]) ∧ Ext X X') from by have := HD.out X; unfold CitePost at this; rw [← hdc] at this; exact this))
  clear hE hn HD hdc
  go_enter Tryd.func3, Tryd.ntmps3
  go_upto_region 2 with (first | (go_at_call 7; refine (HDC.out _).mono ?_; rintro e w1 ⟨rfl, hx1⟩))
  have hbc : Box (w1.alloc (.cells #[.int .i64 db, .int .i64 dn, .int .i64 ds, .int .i64 dl] 25)) w.heap.size br nu su li := ((Box.new w br nu su li 25).ext hx1).ext ((Ext.refl _).alloc _)
  have hbd : Box (w1.alloc (.cells #[.int .i64 db, .int .i64 dn, .int .i64 ds, .int .i64 dl] 25)) w1.heap.size db dn ds dl := Box.new w1 db dn ds dl 25
  have hx0 : Ext w (w1.alloc (.cells #[.int .i64 db, .int .i64 dn, .int .i64 ds, .int .i64 dl] 25)) := (((Ext.refl w).alloc _).trans hx1).alloc _
  have HX0 := Lib.hid hx0
  clear hx0 hx1
  generalize w1.alloc (.cells #[.int .i64 db, .int .i64 dn, .int .i64 ds, .int .i64 dl] 25) = w2 at *
  generalize w1.heap.size = bd at *
  go_cut [6] (fun s6 wx => SmRel w2 (arnd br 260 - 2) dn ds (arnd li 104 - 2) s6 wx)
  case first =>
    obtain ⟨z0, c0, c1, c2, c3, _, _, _, _⟩ := hbc
    obtain ⟨z1, d0, d1, d2, d3, _, _, _, _⟩ := hbd
    obtain ⟨r10, r11⟩ := HR1.out
    obtain ⟨r20, r21⟩ := HR2.out
    have hw1 : IntKind.i64.wrap (arnd br 260 - 2) = arnd br 260 - 2 := IntWalk.i64_in _ (by omega)
    have hw2 : IntKind.i64.wrap (arnd li 104 - 2) = arnd li 104 - 2 := IntWalk.i64_in _ (by omega)
    go_region_held3 (fun W => W.cell? ⟨w.heap.size, 0, none⟩ = some (.int .i64 br) ∧ W.cell? ⟨w.heap.size, 3, none⟩ = some (.int .i64 li) ∧ W.cell? ⟨bd, 1, none⟩ = some (.int .i64 dn) ∧ W.cell? ⟨bd, 2, none⟩ = some (.int .i64 ds)) (go_keep)
      (first | (go_at_call 8; refine (around_fn _ _ _ ?_ ?_ ?_ ?_).mono ?_; (omega); (omega); (omega); (omega); rintro e w' ⟨rfl, rfl⟩))
    all_goals
      go_wp2_with fail
      go_meet
      case rel =>
        exact ⟨w2.heap.size, rfl, (Box.new w2 _ _ _ _ 25).ext ((Ext.refl _).drew), ((Ext.refl w2).alloc _).drew⟩
  case rest =>
    obtain ⟨bs, rfl, hbs, hxs⟩ := hcut
    have hbc3 := hbc.ext hxs
    have hbd3 := hbd.ext hxs
    have HX3 := Lib.hid (HX0.out.trans hxs)
    clear hbc hbd hxs
    go_wp2_with fail
    generalize arnd br 260 - 2 = e1 at *
    generalize arnd li 104 - 2 = e2 at *
    have HQ := Lib.hid (fun W (hW : Ext wc W) => (show W.cell? ⟨w.heap.size, 0, none⟩ = some (.int .i64 br) ∧ W.cell? ⟨w.heap.size, 1, none⟩ = some (.int .i64 nu) ∧ W.cell? ⟨w.heap.size, 2, none⟩ = some (.int .i64 su) ∧ W.cell? ⟨w.heap.size, 3, none⟩ = some (.int .i64 li) ∧ W.cell? ⟨bd, 0, none⟩ = some (.int .i64 db) ∧ W.cell? ⟨bd, 1, none⟩ = some (.int .i64 dn) ∧ W.cell? ⟨bd, 2, none⟩ = some (.int .i64 ds) ∧ W.cell? ⟨bd, 3, none⟩ = some (.int .i64 dl) ∧ W.cell? ⟨bs, 0, none⟩ = some (.int .i64 e1) ∧ W.cell? ⟨bs, 1, none⟩ = some (.int .i64 dn) ∧ W.cell? ⟨bs, 2, none⟩ = some (.int .i64 ds) ∧ W.cell? ⟨bs, 3, none⟩ = some (.int .i64 e2) from
      ⟨(hbc3.ext hW).c0, (hbc3.ext hW).c1, (hbc3.ext hW).c2, (hbc3.ext hW).c3, (hbd3.ext hW).c0, (hbd3.ext hW).c1, (hbd3.ext hW).c2, (hbd3.ext hW).c3, (hbs.ext hW).c0, (hbs.ext hW).c1, (hbs.ext hW).c2, (hbs.ext hW).c3⟩))
    have hcur : Ext wc wc.drew := (Ext.refl _).drew
    obtain ⟨s0, s1, s2, s3, s4, s5, s6, s7, s8, s9, s10, s11⟩ := HQ.out wc (Ext.refl _)
    go_region_held3 (fun W => W.cell? ⟨w.heap.size, 0, none⟩ = some (.int .i64 br) ∧ W.cell? ⟨w.heap.size, 1, none⟩ = some (.int .i64 nu) ∧ W.cell? ⟨w.heap.size, 2, none⟩ = some (.int .i64 su) ∧ W.cell? ⟨w.heap.size, 3, none⟩ = some (.int .i64 li) ∧ W.cell? ⟨bd, 0, none⟩ = some (.int .i64 db) ∧ W.cell? ⟨bd, 1, none⟩ = some (.int .i64 dn) ∧ W.cell? ⟨bd, 2, none⟩ = some (.int .i64 ds) ∧ W.cell? ⟨bd, 3, none⟩ = some (.int .i64 dl) ∧ W.cell? ⟨bs, 0, none⟩ = some (.int .i64 e1) ∧ W.cell? ⟨bs, 1, none⟩ = some (.int .i64 dn) ∧ W.cell? ⟨bs, 2, none⟩ = some (.int .i64 ds) ∧ W.cell? ⟨bs, 3, none⟩ = some (.int .i64 e2)) (first | exact HQ.out _ hcur | go_keep)
      (first
        | (go_at_call 9; refine (ctext4 _ _ _ _ _ ?_).mono ?_; exact (HE.out _ (HX3.out.trans hcur)).tab; rintro e wn ⟨rfl, hx⟩; have hcur := hcur.trans hx; clear hx)
        | (go_at_call 10; refine (rtext4 _ _ _ _ _).mono ?_; rintro e wn ⟨rfl, hx⟩; have hcur := hcur.trans hx; clear hx)
        | (go_at_call 11; refine (lives_any _ (HE.out _ (HX3.out.trans hcur))).mono ?_; rintro e wn ⟨rfl, hx⟩; have hcur := hcur.trans hx; clear hx))
    go_wp2
    go_ret
    exact ⟨rfl, HX3.out.trans hcur⟩
end Go.Proofs.YtbfogchdeijedaaDoor
