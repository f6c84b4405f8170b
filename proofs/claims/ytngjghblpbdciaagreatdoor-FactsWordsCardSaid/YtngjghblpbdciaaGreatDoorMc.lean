/- The contract of the examples of the laws: they hold. -/
import Derived.Test.YtngjghblpbdciaaGreatDoorMb
import Derived.Deep.DeepCutAuto
namespace Go.Proofs.YtngjghblpbdciaaGreatDoor.Fa
open Go Go.RowKit

/-- The six cells of a fact in a block of its own. -/
structure Box (w : World) (X : Nat) (f : Fc) : Prop where
  lt : X < w.heap.size
  c0 : w.cell? ⟨X, 0, none⟩ = some (.int .i64 f.en)
  c1 : w.cell? ⟨X, 1, none⟩ = some (.string f.kd)
  c2 : w.cell? ⟨X, 2, none⟩ = some (.int .i64 f.day)
  c3 : w.cell? ⟨X, 3, none⟩ = some (.int .i64 f.byy)
  c4 : w.cell? ⟨X, 4, none⟩ = some (.int .i64 f.too)
  c5 : w.cell? ⟨X, 5, none⟩ = some (.int .i64 f.am)
theorem Box.ext {w w' : World} {X : Nat} {f : Fc} (h : Box w X f) (hx : Ext w w') : Box w' X f :=
  have k := fun j => hx.cells.1 X j h.lt
  ⟨Nat.lt_of_lt_of_le h.lt hx.lt, (k 0).trans h.c0, (k 1).trans h.c1, (k 2).trans h.c2, (k 3).trans h.c3, (k 4).trans h.c4, (k 5).trans h.c5⟩
theorem Box.new (w : World) (f : Fc) : Box (w.alloc (.cells #[.int .i64 f.en, .string f.kd, .int .i64 f.day, .int .i64 f.byy, .int .i64 f.too, .int .i64 f.am] 24)) w.heap.size f := by
  have h := fun i => cell_of_row (w.alloc (.cells #[.int .i64 f.en, .string f.kd, .int .i64 f.day, .int .i64 f.byy, .int .i64 f.too, .int .i64 f.am] 24)) w.heap.size i _ 24 (0, 0) (heap_alloc_new w _)
  exact ⟨by simp, h 0, h 1, h 2, h 3, h 4, h 5⟩
theorem box3 (w : World) (f g h : Fc) : Box (((w.alloc (.cells #[.int .i64 f.en, .string f.kd, .int .i64 f.day, .int .i64 f.byy, .int .i64 f.too, .int .i64 f.am] 24)).alloc (.cells #[.int .i64 g.en, .string g.kd, .int .i64 g.day, .int .i64 g.byy, .int .i64 g.too, .int .i64 g.am] 24)).alloc (.cells #[.int .i64 h.en, .string h.kd, .int .i64 h.day, .int .i64 h.byy, .int .i64 h.too, .int .i64 h.am] 24)).drew w.heap.size f ∧
    Box (((w.alloc (.cells #[.int .i64 f.en, .string f.kd, .int .i64 f.day, .int .i64 f.byy, .int .i64 f.too, .int .i64 f.am] 24)).alloc (.cells #[.int .i64 g.en, .string g.kd, .int .i64 g.day, .int .i64 g.byy, .int .i64 g.too, .int .i64 g.am] 24)).alloc (.cells #[.int .i64 h.en, .string h.kd, .int .i64 h.day, .int .i64 h.byy, .int .i64 h.too, .int .i64 h.am] 24)).drew (w.heap.size + 1) g ∧
    Box (((w.alloc (.cells #[.int .i64 f.en, .string f.kd, .int .i64 f.day, .int .i64 f.byy, .int .i64 f.too, .int .i64 f.am] 24)).alloc (.cells #[.int .i64 g.en, .string g.kd, .int .i64 g.day, .int .i64 g.byy, .int .i64 g.too, .int .i64 g.am] 24)).alloc (.cells #[.int .i64 h.en, .string h.kd, .int .i64 h.day, .int .i64 h.byy, .int .i64 h.too, .int .i64 h.am] 24)).drew (w.heap.size + 2) h ∧
    Ext w (((w.alloc (.cells #[.int .i64 f.en, .string f.kd, .int .i64 f.day, .int .i64 f.byy, .int .i64 f.too, .int .i64 f.am] 24)).alloc (.cells #[.int .i64 g.en, .string g.kd, .int .i64 g.day, .int .i64 g.byy, .int .i64 g.too, .int .i64 g.am] 24)).alloc (.cells #[.int .i64 h.en, .string h.kd, .int .i64 h.day, .int .i64 h.byy, .int .i64 h.too, .int .i64 h.am] 24)).drew := by
  have b0 := Box.new w f
  have b1 := Box.new (w.alloc (.cells #[.int .i64 f.en, .string f.kd, .int .i64 f.day, .int .i64 f.byy, .int .i64 f.too, .int .i64 f.am] 24)) g
  have b2 := Box.new ((w.alloc (.cells #[.int .i64 f.en, .string f.kd, .int .i64 f.day, .int .i64 f.byy, .int .i64 f.too, .int .i64 f.am] 24)).alloc (.cells #[.int .i64 g.en, .string g.kd, .int .i64 g.day, .int .i64 g.byy, .int .i64 g.too, .int .i64 g.am] 24)) h
  refine ⟨b0.ext ((((Ext.refl _).alloc _).alloc _).drew), ?_, ?_, ((((Ext.refl _).alloc _).alloc _).alloc _).drew⟩
  · have := b1.ext (((Ext.refl _).alloc (.cells #[.int .i64 h.en, .string h.kd, .int .i64 h.day, .int .i64 h.byy, .int .i64 h.too, .int .i64 h.am] 24)).drew)
    simpa using this
  · have := b2.ext (Ext.refl _).drew
    simpa using this
def Cut2 (w1 : World) (s2 s3 s4 : Value) (wx : World) : Prop := ∃ Xa Xb Xc : Nat, s2 = .pointer (some ⟨Xa, 0, none⟩) ∧ s3 = .pointer (some ⟨Xb, 0, none⟩) ∧ s4 = .pointer (some ⟨Xc, 0, none⟩) ∧ Box wx Xa fa ∧ Box wx Xb fb ∧ Box wx Xc fcc ∧ Ext w1 wx
theorem SF.two (w : World) (f g : Fc) (t : TypeId) : SF (w.alloc (.cells #[.int .i64 f.en, .string f.kd, .int .i64 f.day, .int .i64 f.byy, .int .i64 f.too, .int .i64 f.am, .int .i64 g.en, .string g.kd, .int .i64 g.day, .int .i64 g.byy, .int .i64 g.too, .int .i64 g.am] t)) (w.heap.size + 1) (some ⟨w.heap.size, 0, none⟩) 2 [f, g] := by
  refine ⟨rfl, fun _ => ⟨w.heap.size, 0, rfl, by omega, fun i hi j u hu => ?_⟩⟩
  rw [cell_of_row _ w.heap.size _ _ t (0, 0) (heap_alloc_new w _)]
  have hj : j < 6 := (List.getElem?_eq_some_iff.1 hu).1
  rcases (by omega : i = 0 ∨ i = 1) with rfl | rfl <;>
    rcases (by omega : j = 0 ∨ j = 1 ∨ j = 2 ∨ j = 3 ∨ j = 4 ∨ j = 5) with rfl | rfl | rfl | rfl | rfl | rfl <;> exact hu
def AtP (m : List Fc) (w : World) (e : Ending) (w' : World) : Prop := ∃ A c, e = .returned (.slice A m.length c) ∧ SF w' w'.heap.size A m.length m ∧ Ext w w'
theorem ex_at_any (w1 W : World) (X : Option Addr) (op : Int) (m : List Fc) (h : SV w1 w1.heap.size X 4 exL) (hx : Ext w1 W) (e : ratOf (upto exL op) (upto exL op).length = m) :
    Calls Tryz.prog 30 #[.slice X 4 4, .int .i64 op] W (AtP m W) :=
  (at_any X 4 4 exL op W (by omega) (SV.lift h (Nat.le_refl _) hx) ex_en).mono fun _ _ ⟨m0, A, c, h1, h2, _, h3, h4⟩ => by
    obtain rfl := ex_at h2 e
    exact ⟨A, c, h1, h3.sf, h4⟩
theorem ex_known_any (w1 W : World) (X : Option Addr) (h : SV w1 w1.heap.size X 4 exL) (hx : Ext w1 W) :
    Calls Tryz.prog 31 #[.slice X 4 4, .int .i64 9, .int .i64 8] W (AtP [fb] W) :=
  (known_any X 4 4 exL 9 8 W (by omega) (SV.lift h (Nat.le_refl _) hx) ex_en).mono fun _ _ ⟨m0, m, A, c, h1, h2, h3, h4, h5⟩ => by
    obtain rfl := ex_at h2 ex_at8
    rw [ex_known] at h3
    subst h3
    exact ⟨A, c, h1, h4.sf, h5⟩
def ChgP (w : World) (e : Ending) (w' : World) : Prop := ∃ (A1 A2 : Option Addr) (c1 c2 : Nat), e = .returned (.agg #[.slice A1 1 c1, .slice A2 1 c2]) ∧ SF w' w'.heap.size A1 1 [fcc] ∧ SF w' w'.heap.size A2 1 [fa] ∧ Ext w w'
theorem ex_chg_any (w1 W : World) (X : Option Addr) (h : SV w1 w1.heap.size X 4 exL) (hx : Ext w1 W) :
    Calls Tryz.prog 27 #[.slice X 4 4, .int .i64 4, .int .i64 7] W (ChgP W) :=
  (chg_any X 4 4 exL 4 7 W (by omega) (SV.lift h (Nat.le_refl _) hx) ex_en).mono fun _ _ ⟨a, b, A1, A2, c1, c2, h1, h2, h3, _, _, h4, h5, h6⟩ => by
    obtain rfl := ex_at h2 ex_at4
    obtain rfl := ex_at h3 ex_at7
    rw [ex_add] at h1 h4
    rw [ex_rem] at h1 h5
    exact ⟨A1, A2, c1, c2, h1, h4, h5, h6⟩
theorem ex_same_any (W : World) (A A' : Option Addr) (n n' c c' : Nat) (m : List Fc) (h : SF W W.heap.size A n m) (h' : SF W W.heap.size A' n' m) (hm : m.length ≤ 1000) :
    Calls Tryz.prog 29 #[.slice A n c, .slice A' n' c'] W fun e w' => e = .returned (.bool true) ∧ Ext W w' :=
  (sameF_any A A' n n' c c' m m W (by rw [← h.1]; exact hm) (by rw [← h'.1]; exact hm) h h').mono fun _ _ ⟨h1, h2⟩ => ⟨by simpa using h1, h2⟩

set_option maxRecDepth 100000 in
set_option maxHeartbeats 2000000 in
theorem lives_any (w : World) : Calls Tryz.prog 9 #[] w fun e w' => e = .returned (.bool true) ∧ Ext w w' := by
  go_enter Tryz.func9, Tryz.ntmps9
  go_wp2_with fail
  refine (example_any _).mono ?_
  rintro e w1 ⟨rfl, hsv, hx1⟩
  have HS := Lib.hid hsv
  have HX1 := Lib.hid hx1
  have hb : w.heap.size < w1.heap.size := by
    obtain ⟨b, off, ee, hb, _⟩ := hsv.at_ (k := 0) (by omega)
    injection ee with ee; injection ee with e1 e2; subst e1; exact hb
  go_upto_region 2 with (fail)
  go_cut [2, 3, 4] (fun s2 s3 s4 wx => Cut2 w1 s2 s3 s4 wx)
  case first =>
    obtain ⟨_, _, ee, _, _, _, c00, c01, c02, c03, c04, c05⟩ := hsv.at_ (k := 0) (by omega)
    injection ee with ee; injection ee with ee1 ee2
    subst ee1; subst ee2
    simp only [show (vat exL 0).fc = fa from rfl, Nat.zero_add, Nat.zero_mul] at c00 c01 c02 c03 c04 c05
    obtain ⟨_, _, ee, _, _, _, c10, c11, c12, c13, c14, c15⟩ := hsv.at_ (k := 1) (by omega)
    injection ee with ee; injection ee with ee1 ee2
    subst ee1; subst ee2
    simp only [show (vat exL 1).fc = fb from rfl, Nat.zero_add, Nat.one_mul, Nat.reduceAdd] at c10 c11 c12 c13 c14 c15
    obtain ⟨_, _, ee, _, _, _, c20, c21, c22, c23, c24, c25⟩ := hsv.at_ (k := 2) (by omega)
    injection ee with ee; injection ee with ee1 ee2
    subst ee1; subst ee2
    simp only [show (vat exL 2).fc = fcc from rfl, Nat.zero_add, Nat.reduceMul, Nat.reduceAdd] at c20 c21 c22 c23 c24 c25
    clear hsv hx1
    refine wp_region_E (fun _ => True) (fun w' => Ext w1 w') (fun _ => true) (by kernel_rfl) ?_
    have hT0 : Ext w1 w1.drew := (Ext.refl w1).drew
    refine wpE_takeT (i := 0) (d := some 11) (v := .slice (some ⟨w.heap.size, 0, none⟩) 4 4) rfl rfl (by kernel_rfl) (by kernel_rfl) (by kernel_rfl) rfl (fun _ _ _ h => h) (by rfl) ?hy1 hT0 ?go1
    case hy1 =>
      intro w9 hT9
      clear hT9
      go_simp
    (try simp only [Act.put, List.setIfInBounds_toArray, List.set_cons_zero, List.set_cons_succ])
    refine wpE_takeT (i := 1) (d := some 12) (v := .pointer (some ⟨w.heap.size, 0, none⟩)) rfl rfl (by kernel_rfl) (by kernel_rfl) (by kernel_rfl) rfl (fun _ _ _ h => h) (by rfl) ?hy2 hT0 ?go2
    case hy2 =>
      intro w9 hT9
      clear hT9
      go_simp
    (try simp only [Act.put, List.setIfInBounds_toArray, List.set_cons_zero, List.set_cons_succ])
    refine wpE_takeT (i := 2) (d := some 13) (v := .pointer (some ⟨w.heap.size, 2, none⟩)) rfl rfl (by kernel_rfl) (by kernel_rfl) (by kernel_rfl) rfl (fun _ _ _ h => h) (by rfl) ?hy3 hT0 ?go3
    case hy3 =>
      intro w9 hT9
      clear hT9
      go_simp
    (try simp only [Act.put, List.setIfInBounds_toArray, List.set_cons_zero, List.set_cons_succ])
    refine wpE_takeT (i := 3) (d := some 14) (v := .agg #[.int .i64 fa.en, .string fa.kd, .int .i64 fa.day, .int .i64 fa.byy, .int .i64 fa.too, .int .i64 fa.am]) rfl rfl (by kernel_rfl) (by kernel_rfl) (by kernel_rfl) rfl (fun _ _ _ h => h) (by rfl) ?hy4 hT0 ?go4
    case hy4 =>
      intro w9 hT9
      have g0 := (hT9.cells.1 w.heap.size 2 hb).trans c00
      have g1 := (hT9.cells.1 w.heap.size 3 hb).trans c01
      have g2 := (hT9.cells.1 w.heap.size 4 hb).trans c02
      have g3 := (hT9.cells.1 w.heap.size 5 hb).trans c03
      have g4 := (hT9.cells.1 w.heap.size 6 hb).trans c04
      have g5 := (hT9.cells.1 w.heap.size 7 hb).trans c05
      clear hT9
      go_simp
    (try simp only [Act.put, List.setIfInBounds_toArray, List.set_cons_zero, List.set_cons_succ])
    refine wpE_takeT (i := 4) (d := some 15) (v := .slice (some ⟨w.heap.size, 0, none⟩) 4 4) rfl rfl (by kernel_rfl) (by kernel_rfl) (by kernel_rfl) rfl (fun _ _ _ h => h) (by rfl) ?hy5 hT0 ?go5
    case hy5 =>
      intro w9 hT9
      clear hT9
      go_simp
    (try simp only [Act.put, List.setIfInBounds_toArray, List.set_cons_zero, List.set_cons_succ])
    refine wpE_takeT (i := 5) (d := some 16) (v := .pointer (some ⟨w.heap.size, 8, none⟩)) rfl rfl (by kernel_rfl) (by kernel_rfl) (by kernel_rfl) rfl (fun _ _ _ h => h) (by rfl) ?hy6 hT0 ?go6
    case hy6 =>
      intro w9 hT9
      clear hT9
      go_simp
    (try simp only [Act.put, List.setIfInBounds_toArray, List.set_cons_zero, List.set_cons_succ])
    refine wpE_takeT (i := 6) (d := some 17) (v := .pointer (some ⟨w.heap.size, 10, none⟩)) rfl rfl (by kernel_rfl) (by kernel_rfl) (by kernel_rfl) rfl (fun _ _ _ h => h) (by rfl) ?hy7 hT0 ?go7
    case hy7 =>
      intro w9 hT9
      clear hT9
      go_simp
    (try simp only [Act.put, List.setIfInBounds_toArray, List.set_cons_zero, List.set_cons_succ])
    refine wpE_takeT (i := 7) (d := some 18) (v := .agg #[.int .i64 fb.en, .string fb.kd, .int .i64 fb.day, .int .i64 fb.byy, .int .i64 fb.too, .int .i64 fb.am]) rfl rfl (by kernel_rfl) (by kernel_rfl) (by kernel_rfl) rfl (fun _ _ _ h => h) (by rfl) ?hy8 hT0 ?go8
    case hy8 =>
      intro w9 hT9
      have g0 := (hT9.cells.1 w.heap.size 10 hb).trans c10
      have g1 := (hT9.cells.1 w.heap.size 11 hb).trans c11
      have g2 := (hT9.cells.1 w.heap.size 12 hb).trans c12
      have g3 := (hT9.cells.1 w.heap.size 13 hb).trans c13
      have g4 := (hT9.cells.1 w.heap.size 14 hb).trans c14
      have g5 := (hT9.cells.1 w.heap.size 15 hb).trans c15
      clear hT9
      go_simp
    (try simp only [Act.put, List.setIfInBounds_toArray, List.set_cons_zero, List.set_cons_succ])
    refine wpE_takeT (i := 8) (d := some 19) (v := .slice (some ⟨w.heap.size, 0, none⟩) 4 4) rfl rfl (by kernel_rfl) (by kernel_rfl) (by kernel_rfl) rfl (fun _ _ _ h => h) (by rfl) ?hy9 hT0 ?go9
    case hy9 =>
      intro w9 hT9
      clear hT9
      go_simp
    (try simp only [Act.put, List.setIfInBounds_toArray, List.set_cons_zero, List.set_cons_succ])
    refine wpE_takeT (i := 9) (d := some 20) (v := .pointer (some ⟨w.heap.size, 16, none⟩)) rfl rfl (by kernel_rfl) (by kernel_rfl) (by kernel_rfl) rfl (fun _ _ _ h => h) (by rfl) ?hy10 hT0 ?go10
    case hy10 =>
      intro w9 hT9
      clear hT9
      go_simp
    (try simp only [Act.put, List.setIfInBounds_toArray, List.set_cons_zero, List.set_cons_succ])
    refine wpE_takeT (i := 10) (d := some 21) (v := .pointer (some ⟨w.heap.size, 18, none⟩)) rfl rfl (by kernel_rfl) (by kernel_rfl) (by kernel_rfl) rfl (fun _ _ _ h => h) (by rfl) ?hy11 hT0 ?go11
    case hy11 =>
      intro w9 hT9
      clear hT9
      go_simp
    (try simp only [Act.put, List.setIfInBounds_toArray, List.set_cons_zero, List.set_cons_succ])
    refine wpE_takeT (i := 11) (d := some 22) (v := .agg #[.int .i64 fcc.en, .string fcc.kd, .int .i64 fcc.day, .int .i64 fcc.byy, .int .i64 fcc.too, .int .i64 fcc.am]) rfl rfl (by kernel_rfl) (by kernel_rfl) (by kernel_rfl) rfl (fun _ _ _ h => h) (by rfl) ?hy12 hT0 ?go12
    case hy12 =>
      intro w9 hT9
      have g0 := (hT9.cells.1 w.heap.size 18 hb).trans c20
      have g1 := (hT9.cells.1 w.heap.size 19 hb).trans c21
      have g2 := (hT9.cells.1 w.heap.size 20 hb).trans c22
      have g3 := (hT9.cells.1 w.heap.size 21 hb).trans c23
      have g4 := (hT9.cells.1 w.heap.size 22 hb).trans c24
      have g5 := (hT9.cells.1 w.heap.size 23 hb).trans c25
      clear hT9
      go_simp
    (try simp only [Act.put, List.setIfInBounds_toArray, List.set_cons_zero, List.set_cons_succ])
    clear c00 c01 c02 c03 c04 c05 c10 c11 c12 c13 c14 c15 c20 c21 c22 c23 c24 c25
    refine wpE_all (rs := [12, 13, 14]) (by kernel_rfl) (by simp) ?_
    refine AllE.cons rfl (fun K hK => ?_) ?_
    · simp only [List.getElem_toArray, List.getElem_cons_succ, List.getElem_cons_zero]
      go_simp
      refine hK.out _ _ ⟨fun _ => trivial, by show Ext w1 _; repeat' (first | exact Ext.refl _ | refine Ext.drew ?_ | refine Ext.alloc ?_ _)⟩ (fun _ => ?_)
      clear hK K
      (try simp only [Act.put, List.setIfInBounds_toArray, List.set_cons_zero, List.set_cons_succ])
      refine wpE_all (rs := [13, 14]) (by kernel_rfl) (by simp) ?_
      refine AllE.cons rfl (fun K hK => ?_) ?_
      · simp only [List.getElem_toArray, List.getElem_cons_succ, List.getElem_cons_zero]
        go_simp
        refine hK.out _ _ ⟨fun _ => trivial, by show Ext w1 _; repeat' (first | exact Ext.refl _ | refine Ext.drew ?_ | refine Ext.alloc ?_ _)⟩ (fun _ => ?_)
        clear hK K
        (try simp only [Act.put, List.setIfInBounds_toArray, List.set_cons_zero, List.set_cons_succ])
        refine wpE_all (rs := [14]) (by kernel_rfl) (by simp) ?_
        refine AllE.cons rfl (fun K hK => ?_) AllE.nil
        simp only [List.getElem_toArray, List.getElem_cons_succ, List.getElem_cons_zero]
        go_simp
        refine hK.out _ _ ⟨fun _ => trivial, by show Ext w1 _; repeat' (first | exact Ext.refl _ | refine Ext.drew ?_ | refine Ext.alloc ?_ _)⟩ (fun _ => ?_)
        clear hK K
        (try simp only [Act.put, List.setIfInBounds_toArray, List.set_cons_zero, List.set_cons_succ])
        refine wpE_all (rs := [15]) (by kernel_rfl) (by simp) ?_
        refine AllE.cons rfl (fun K hK => ?_) AllE.nil
        simp only [List.getElem_toArray, List.getElem_cons_succ, List.getElem_cons_zero]
        go_simp
        refine hK.out _ _ ⟨fun _ => trivial, by show Ext w1 _; repeat' (first | exact Ext.refl _ | refine Ext.drew ?_ | refine Ext.alloc ?_ _)⟩ (fun _ => ?_)
        clear hK K
        (try simp only [Act.put, List.setIfInBounds_toArray, List.set_cons_zero, List.set_cons_succ])
        refine wpE_all (rs := [16]) (by kernel_rfl) (by simp) ?_
        refine AllE.cons rfl (fun K hK => ?_) AllE.nil
        simp only [List.getElem_toArray, List.getElem_cons_succ, List.getElem_cons_zero]
        go_simp
        refine hK.out _ _ ⟨fun _ => trivial, by show Ext w1 _; repeat' (first | exact Ext.refl _ | refine Ext.drew ?_ | refine Ext.alloc ?_ _)⟩ (fun _ => ?_)
        clear hK K
        (try simp only [Act.put, List.setIfInBounds_toArray, List.set_cons_zero, List.set_cons_succ])
        refine wpE_all (rs := [17]) (by kernel_rfl) (by simp) ?_
        refine AllE.cons rfl (fun K hK => ?_) AllE.nil
        simp only [List.getElem_toArray, List.getElem_cons_succ, List.getElem_cons_zero]
        go_simp
        refine hK.out _ _ ⟨fun _ => trivial, by show Ext w1 _; repeat' (first | exact Ext.refl _ | refine Ext.drew ?_ | refine Ext.alloc ?_ _)⟩ (fun _ => ?_)
        clear hK K
        (try simp only [Act.put, List.setIfInBounds_toArray, List.set_cons_zero, List.set_cons_succ])
        refine wpE_done (by kernel_rfl) ?_ _
        go_wp2_with fail
        go_meet
        case rel =>
          obtain ⟨p0, p1, p2, px⟩ := box3 w1 fa fb fcc
          exact ⟨_, _, _, rfl, rfl, rfl, p0, p1, p2, px⟩
      refine AllE.cons rfl (fun K hK => ?_) ?_
      · simp only [List.getElem_toArray, List.getElem_cons_succ, List.getElem_cons_zero]
        go_simp
        refine hK.out _ _ ⟨fun _ => trivial, by show Ext w1 _; repeat' (first | exact Ext.refl _ | refine Ext.drew ?_ | refine Ext.alloc ?_ _)⟩ (fun _ => ?_)
        clear hK K
        (try simp only [Act.put, List.setIfInBounds_toArray, List.set_cons_zero, List.set_cons_succ])
        refine wpE_all (rs := [13]) (by kernel_rfl) (by simp) ?_
        refine AllE.cons rfl (fun K hK => ?_) AllE.nil
        simp only [List.getElem_toArray, List.getElem_cons_succ, List.getElem_cons_zero]
        go_simp
        refine hK.out _ _ ⟨fun _ => trivial, by show Ext w1 _; repeat' (first | exact Ext.refl _ | refine Ext.drew ?_ | refine Ext.alloc ?_ _)⟩ (fun _ => ?_)
        clear hK K
        (try simp only [Act.put, List.setIfInBounds_toArray, List.set_cons_zero, List.set_cons_succ])
        refine wpE_all (rs := [15]) (by kernel_rfl) (by simp) ?_
        refine AllE.cons rfl (fun K hK => ?_) AllE.nil
        simp only [List.getElem_toArray, List.getElem_cons_succ, List.getElem_cons_zero]
        go_simp
        refine hK.out _ _ ⟨fun _ => trivial, by show Ext w1 _; repeat' (first | exact Ext.refl _ | refine Ext.drew ?_ | refine Ext.alloc ?_ _)⟩ (fun _ => ?_)
        clear hK K
        (try simp only [Act.put, List.setIfInBounds_toArray, List.set_cons_zero, List.set_cons_succ])
        refine wpE_all (rs := [16]) (by kernel_rfl) (by simp) ?_
        refine AllE.cons rfl (fun K hK => ?_) AllE.nil
        simp only [List.getElem_toArray, List.getElem_cons_succ, List.getElem_cons_zero]
        go_simp
        refine hK.out _ _ ⟨fun _ => trivial, by show Ext w1 _; repeat' (first | exact Ext.refl _ | refine Ext.drew ?_ | refine Ext.alloc ?_ _)⟩ (fun _ => ?_)
        clear hK K
        (try simp only [Act.put, List.setIfInBounds_toArray, List.set_cons_zero, List.set_cons_succ])
        refine wpE_all (rs := [17]) (by kernel_rfl) (by simp) ?_
        refine AllE.cons rfl (fun K hK => ?_) AllE.nil
        simp only [List.getElem_toArray, List.getElem_cons_succ, List.getElem_cons_zero]
        go_simp
        refine hK.out _ _ ⟨fun _ => trivial, by show Ext w1 _; repeat' (first | exact Ext.refl _ | refine Ext.drew ?_ | refine Ext.alloc ?_ _)⟩ (fun _ => ?_)
        clear hK K
        (try simp only [Act.put, List.setIfInBounds_toArray, List.set_cons_zero, List.set_cons_succ])
        refine wpE_done (by kernel_rfl) ?_ _
        go_wp2_with fail
        go_meet
        case rel =>
          obtain ⟨p0, p1, p2, px⟩ := box3 w1 fa fcc fb
          exact ⟨_, _, _, rfl, rfl, rfl, p0, p2, p1, px⟩
      exact AllE.nil
    refine AllE.cons rfl (fun K hK => ?_) ?_
    · simp only [List.getElem_toArray, List.getElem_cons_succ, List.getElem_cons_zero]
      go_simp
      refine hK.out _ _ ⟨fun _ => trivial, by show Ext w1 _; repeat' (first | exact Ext.refl _ | refine Ext.drew ?_ | refine Ext.alloc ?_ _)⟩ (fun _ => ?_)
      clear hK K
      (try simp only [Act.put, List.setIfInBounds_toArray, List.set_cons_zero, List.set_cons_succ])
      refine wpE_all (rs := [12, 14]) (by kernel_rfl) (by simp) ?_
      refine AllE.cons rfl (fun K hK => ?_) ?_
      · simp only [List.getElem_toArray, List.getElem_cons_succ, List.getElem_cons_zero]
        go_simp
        refine hK.out _ _ ⟨fun _ => trivial, by show Ext w1 _; repeat' (first | exact Ext.refl _ | refine Ext.drew ?_ | refine Ext.alloc ?_ _)⟩ (fun _ => ?_)
        clear hK K
        (try simp only [Act.put, List.setIfInBounds_toArray, List.set_cons_zero, List.set_cons_succ])
        refine wpE_all (rs := [14]) (by kernel_rfl) (by simp) ?_
        refine AllE.cons rfl (fun K hK => ?_) AllE.nil
        simp only [List.getElem_toArray, List.getElem_cons_succ, List.getElem_cons_zero]
        go_simp
        refine hK.out _ _ ⟨fun _ => trivial, by show Ext w1 _; repeat' (first | exact Ext.refl _ | refine Ext.drew ?_ | refine Ext.alloc ?_ _)⟩ (fun _ => ?_)
        clear hK K
        (try simp only [Act.put, List.setIfInBounds_toArray, List.set_cons_zero, List.set_cons_succ])
        refine wpE_all (rs := [15]) (by kernel_rfl) (by simp) ?_
        refine AllE.cons rfl (fun K hK => ?_) AllE.nil
        simp only [List.getElem_toArray, List.getElem_cons_succ, List.getElem_cons_zero]
        go_simp
        refine hK.out _ _ ⟨fun _ => trivial, by show Ext w1 _; repeat' (first | exact Ext.refl _ | refine Ext.drew ?_ | refine Ext.alloc ?_ _)⟩ (fun _ => ?_)
        clear hK K
        (try simp only [Act.put, List.setIfInBounds_toArray, List.set_cons_zero, List.set_cons_succ])
        refine wpE_all (rs := [16]) (by kernel_rfl) (by simp) ?_
        refine AllE.cons rfl (fun K hK => ?_) AllE.nil
        simp only [List.getElem_toArray, List.getElem_cons_succ, List.getElem_cons_zero]
        go_simp
        refine hK.out _ _ ⟨fun _ => trivial, by show Ext w1 _; repeat' (first | exact Ext.refl _ | refine Ext.drew ?_ | refine Ext.alloc ?_ _)⟩ (fun _ => ?_)
        clear hK K
        (try simp only [Act.put, List.setIfInBounds_toArray, List.set_cons_zero, List.set_cons_succ])
        refine wpE_all (rs := [17]) (by kernel_rfl) (by simp) ?_
        refine AllE.cons rfl (fun K hK => ?_) AllE.nil
        simp only [List.getElem_toArray, List.getElem_cons_succ, List.getElem_cons_zero]
        go_simp
        refine hK.out _ _ ⟨fun _ => trivial, by show Ext w1 _; repeat' (first | exact Ext.refl _ | refine Ext.drew ?_ | refine Ext.alloc ?_ _)⟩ (fun _ => ?_)
        clear hK K
        (try simp only [Act.put, List.setIfInBounds_toArray, List.set_cons_zero, List.set_cons_succ])
        refine wpE_done (by kernel_rfl) ?_ _
        go_wp2_with fail
        go_meet
        case rel =>
          obtain ⟨p0, p1, p2, px⟩ := box3 w1 fb fa fcc
          exact ⟨_, _, _, rfl, rfl, rfl, p1, p0, p2, px⟩
      refine AllE.cons rfl (fun K hK => ?_) ?_
      · simp only [List.getElem_toArray, List.getElem_cons_succ, List.getElem_cons_zero]
        go_simp
        refine hK.out _ _ ⟨fun _ => trivial, by show Ext w1 _; repeat' (first | exact Ext.refl _ | refine Ext.drew ?_ | refine Ext.alloc ?_ _)⟩ (fun _ => ?_)
        clear hK K
        (try simp only [Act.put, List.setIfInBounds_toArray, List.set_cons_zero, List.set_cons_succ])
        refine wpE_all (rs := [12]) (by kernel_rfl) (by simp) ?_
        refine AllE.cons rfl (fun K hK => ?_) AllE.nil
        simp only [List.getElem_toArray, List.getElem_cons_succ, List.getElem_cons_zero]
        go_simp
        refine hK.out _ _ ⟨fun _ => trivial, by show Ext w1 _; repeat' (first | exact Ext.refl _ | refine Ext.drew ?_ | refine Ext.alloc ?_ _)⟩ (fun _ => ?_)
        clear hK K
        (try simp only [Act.put, List.setIfInBounds_toArray, List.set_cons_zero, List.set_cons_succ])
        refine wpE_all (rs := [15]) (by kernel_rfl) (by simp) ?_
        refine AllE.cons rfl (fun K hK => ?_) AllE.nil
        simp only [List.getElem_toArray, List.getElem_cons_succ, List.getElem_cons_zero]
        go_simp
        refine hK.out _ _ ⟨fun _ => trivial, by show Ext w1 _; repeat' (first | exact Ext.refl _ | refine Ext.drew ?_ | refine Ext.alloc ?_ _)⟩ (fun _ => ?_)
        clear hK K
        (try simp only [Act.put, List.setIfInBounds_toArray, List.set_cons_zero, List.set_cons_succ])
        refine wpE_all (rs := [16]) (by kernel_rfl) (by simp) ?_
        refine AllE.cons rfl (fun K hK => ?_) AllE.nil
        simp only [List.getElem_toArray, List.getElem_cons_succ, List.getElem_cons_zero]
        go_simp
        refine hK.out _ _ ⟨fun _ => trivial, by show Ext w1 _; repeat' (first | exact Ext.refl _ | refine Ext.drew ?_ | refine Ext.alloc ?_ _)⟩ (fun _ => ?_)
        clear hK K
        (try simp only [Act.put, List.setIfInBounds_toArray, List.set_cons_zero, List.set_cons_succ])
        refine wpE_all (rs := [17]) (by kernel_rfl) (by simp) ?_
        refine AllE.cons rfl (fun K hK => ?_) AllE.nil
        simp only [List.getElem_toArray, List.getElem_cons_succ, List.getElem_cons_zero]
        go_simp
        refine hK.out _ _ ⟨fun _ => trivial, by show Ext w1 _; repeat' (first | exact Ext.refl _ | refine Ext.drew ?_ | refine Ext.alloc ?_ _)⟩ (fun _ => ?_)
        clear hK K
        (try simp only [Act.put, List.setIfInBounds_toArray, List.set_cons_zero, List.set_cons_succ])
        refine wpE_done (by kernel_rfl) ?_ _
        go_wp2_with fail
        go_meet
        case rel =>
          obtain ⟨p0, p1, p2, px⟩ := box3 w1 fb fcc fa
          exact ⟨_, _, _, rfl, rfl, rfl, p2, p0, p1, px⟩
      exact AllE.nil
    refine AllE.cons rfl (fun K hK => ?_) ?_
    · simp only [List.getElem_toArray, List.getElem_cons_succ, List.getElem_cons_zero]
      go_simp
      refine hK.out _ _ ⟨fun _ => trivial, by show Ext w1 _; repeat' (first | exact Ext.refl _ | refine Ext.drew ?_ | refine Ext.alloc ?_ _)⟩ (fun _ => ?_)
      clear hK K
      (try simp only [Act.put, List.setIfInBounds_toArray, List.set_cons_zero, List.set_cons_succ])
      refine wpE_all (rs := [12, 13]) (by kernel_rfl) (by simp) ?_
      refine AllE.cons rfl (fun K hK => ?_) ?_
      · simp only [List.getElem_toArray, List.getElem_cons_succ, List.getElem_cons_zero]
        go_simp
        refine hK.out _ _ ⟨fun _ => trivial, by show Ext w1 _; repeat' (first | exact Ext.refl _ | refine Ext.drew ?_ | refine Ext.alloc ?_ _)⟩ (fun _ => ?_)
        clear hK K
        (try simp only [Act.put, List.setIfInBounds_toArray, List.set_cons_zero, List.set_cons_succ])
        refine wpE_all (rs := [13]) (by kernel_rfl) (by simp) ?_
        refine AllE.cons rfl (fun K hK => ?_) AllE.nil
        simp only [List.getElem_toArray, List.getElem_cons_succ, List.getElem_cons_zero]
        go_simp
        refine hK.out _ _ ⟨fun _ => trivial, by show Ext w1 _; repeat' (first | exact Ext.refl _ | refine Ext.drew ?_ | refine Ext.alloc ?_ _)⟩ (fun _ => ?_)
        clear hK K
        (try simp only [Act.put, List.setIfInBounds_toArray, List.set_cons_zero, List.set_cons_succ])
        refine wpE_all (rs := [15]) (by kernel_rfl) (by simp) ?_
        refine AllE.cons rfl (fun K hK => ?_) AllE.nil
        simp only [List.getElem_toArray, List.getElem_cons_succ, List.getElem_cons_zero]
        go_simp
        refine hK.out _ _ ⟨fun _ => trivial, by show Ext w1 _; repeat' (first | exact Ext.refl _ | refine Ext.drew ?_ | refine Ext.alloc ?_ _)⟩ (fun _ => ?_)
        clear hK K
        (try simp only [Act.put, List.setIfInBounds_toArray, List.set_cons_zero, List.set_cons_succ])
        refine wpE_all (rs := [16]) (by kernel_rfl) (by simp) ?_
        refine AllE.cons rfl (fun K hK => ?_) AllE.nil
        simp only [List.getElem_toArray, List.getElem_cons_succ, List.getElem_cons_zero]
        go_simp
        refine hK.out _ _ ⟨fun _ => trivial, by show Ext w1 _; repeat' (first | exact Ext.refl _ | refine Ext.drew ?_ | refine Ext.alloc ?_ _)⟩ (fun _ => ?_)
        clear hK K
        (try simp only [Act.put, List.setIfInBounds_toArray, List.set_cons_zero, List.set_cons_succ])
        refine wpE_all (rs := [17]) (by kernel_rfl) (by simp) ?_
        refine AllE.cons rfl (fun K hK => ?_) AllE.nil
        simp only [List.getElem_toArray, List.getElem_cons_succ, List.getElem_cons_zero]
        go_simp
        refine hK.out _ _ ⟨fun _ => trivial, by show Ext w1 _; repeat' (first | exact Ext.refl _ | refine Ext.drew ?_ | refine Ext.alloc ?_ _)⟩ (fun _ => ?_)
        clear hK K
        (try simp only [Act.put, List.setIfInBounds_toArray, List.set_cons_zero, List.set_cons_succ])
        refine wpE_done (by kernel_rfl) ?_ _
        go_wp2_with fail
        go_meet
        case rel =>
          obtain ⟨p0, p1, p2, px⟩ := box3 w1 fcc fa fb
          exact ⟨_, _, _, rfl, rfl, rfl, p1, p2, p0, px⟩
      refine AllE.cons rfl (fun K hK => ?_) ?_
      · simp only [List.getElem_toArray, List.getElem_cons_succ, List.getElem_cons_zero]
        go_simp
        refine hK.out _ _ ⟨fun _ => trivial, by show Ext w1 _; repeat' (first | exact Ext.refl _ | refine Ext.drew ?_ | refine Ext.alloc ?_ _)⟩ (fun _ => ?_)
        clear hK K
        (try simp only [Act.put, List.setIfInBounds_toArray, List.set_cons_zero, List.set_cons_succ])
        refine wpE_all (rs := [12]) (by kernel_rfl) (by simp) ?_
        refine AllE.cons rfl (fun K hK => ?_) AllE.nil
        simp only [List.getElem_toArray, List.getElem_cons_succ, List.getElem_cons_zero]
        go_simp
        refine hK.out _ _ ⟨fun _ => trivial, by show Ext w1 _; repeat' (first | exact Ext.refl _ | refine Ext.drew ?_ | refine Ext.alloc ?_ _)⟩ (fun _ => ?_)
        clear hK K
        (try simp only [Act.put, List.setIfInBounds_toArray, List.set_cons_zero, List.set_cons_succ])
        refine wpE_all (rs := [15]) (by kernel_rfl) (by simp) ?_
        refine AllE.cons rfl (fun K hK => ?_) AllE.nil
        simp only [List.getElem_toArray, List.getElem_cons_succ, List.getElem_cons_zero]
        go_simp
        refine hK.out _ _ ⟨fun _ => trivial, by show Ext w1 _; repeat' (first | exact Ext.refl _ | refine Ext.drew ?_ | refine Ext.alloc ?_ _)⟩ (fun _ => ?_)
        clear hK K
        (try simp only [Act.put, List.setIfInBounds_toArray, List.set_cons_zero, List.set_cons_succ])
        refine wpE_all (rs := [16]) (by kernel_rfl) (by simp) ?_
        refine AllE.cons rfl (fun K hK => ?_) AllE.nil
        simp only [List.getElem_toArray, List.getElem_cons_succ, List.getElem_cons_zero]
        go_simp
        refine hK.out _ _ ⟨fun _ => trivial, by show Ext w1 _; repeat' (first | exact Ext.refl _ | refine Ext.drew ?_ | refine Ext.alloc ?_ _)⟩ (fun _ => ?_)
        clear hK K
        (try simp only [Act.put, List.setIfInBounds_toArray, List.set_cons_zero, List.set_cons_succ])
        refine wpE_all (rs := [17]) (by kernel_rfl) (by simp) ?_
        refine AllE.cons rfl (fun K hK => ?_) AllE.nil
        simp only [List.getElem_toArray, List.getElem_cons_succ, List.getElem_cons_zero]
        go_simp
        refine hK.out _ _ ⟨fun _ => trivial, by show Ext w1 _; repeat' (first | exact Ext.refl _ | refine Ext.drew ?_ | refine Ext.alloc ?_ _)⟩ (fun _ => ?_)
        clear hK K
        (try simp only [Act.put, List.setIfInBounds_toArray, List.set_cons_zero, List.set_cons_succ])
        refine wpE_done (by kernel_rfl) ?_ _
        go_wp2_with fail
        go_meet
        case rel =>
          obtain ⟨p0, p1, p2, px⟩ := box3 w1 fcc fb fa
          exact ⟨_, _, _, rfl, rfl, rfl, p2, p1, p0, px⟩
      exact AllE.nil
    exact AllE.nil
  case rest =>
    clear hsv hx1
    obtain ⟨Xa, Xb, Xc, rfl, rfl, rfl, ha, hbb, hcc, hx2⟩ := hcut
    have HA := Lib.hid ha
    have HB := Lib.hid hbb
    have HC := Lib.hid hcc
    have HX2 := Lib.hid hx2
    have hza := ha.lt
    obtain ⟨_, a0, a1, a2, a3, a4, a5⟩ := ha
    clear hbb hcc hx2
    go_wp2_with fail
    refine (pappend_any _ 4 4 exL ⟨8, false, fa⟩ _ (by omega) (SV.lift HS.out (Nat.le_refl _) HX2.out) (by show fa.kd.size ≤ maxLen; decide) (fun j hj => by have := ex_kd j hj; simp only [maxLen]; omega) ex_check).mono ?_
    rintro e w2 ⟨hres, hx3⟩
    rw [ex_w8] at hres
    rcases hres with ⟨_, rfl⟩ | ⟨h0, _⟩
    case inr => exact absurd h0 (by decide)
    have HX3 := Lib.hid (HX2.out.trans hx3)
    have HXw := Lib.hid hx3
    clear a0 a1 a2 a3 a4 a5
    obtain ⟨hza2, a0, a1, a2, a3, a4, a5⟩ := HA.out.ext hx3
    clear hx3
    go_wp2_with fail
    refine (pappend_any _ 4 4 exL ⟨9, true, fa⟩ _ (by omega) (SV.lift HS.out (Nat.le_refl _) HX3.out) (by show fa.kd.size ≤ maxLen; decide) (fun j hj => by have := ex_kd j hj; simp only [maxLen]; omega) ex_check).mono ?_
    rintro e w3 ⟨hres, hx4⟩
    rw [ex_w9] at hres
    rcases hres with ⟨_, rfl⟩ | ⟨h0, _⟩
    case inr => exact absurd h0 (by decide)
    have HX4 := Lib.hid (HX3.out.trans hx4)
    have HXx := Lib.hid (HXw.out.trans hx4)
    clear a0 a1 a2 a3 a4 a5 hx4
    go_wp2_with fail
    refine (ex_chg_any w1 _ _ HS.out HX4.out).mono ?_
    rintro e w4 ⟨D1, D2, d1, d2, rfl, hd1, hd2, hx5⟩
    have HD1 := Lib.hid hd1
    have HD2 := Lib.hid hd2
    have HX5 := Lib.hid (HX4.out.trans hx5)
    have HXy := Lib.hid (HXx.out.trans hx5)
    clear hd1 hd2 hx5
    go_wp2_with fail
    have hx6 : Ext w1 (w4.alloc (.cells #[.slice D1 1 d1, .slice D2 1 d2] 59)) := HX5.out.alloc _
    refine (check_any _ 4 4 exL _ (by omega) (SV.lift HS.out (Nat.le_refl _) hx6) (fun j hj => by have := ex_kd j hj; simp only [maxLen]; omega)).mono ?_
    rintro e w5 ⟨rfl, hx7⟩
    rw [ex_check]
    have HX7 := Lib.hid (hx6.trans hx7)
    have HBD := Lib.hid ((Bk.new w4 59 #[.slice D1 1 d1, .slice D2 1 d2]).ext hx7)
    have HXz := Lib.hid ((HXy.out.alloc (.cells #[.slice D1 1 d1, .slice D2 1 d2] 59)).trans hx7)
    have HXd := Lib.hid (((Ext.refl w4).alloc (.cells #[.slice D1 1 d1, .slice D2 1 d2] 59)).trans hx7)
    clear hx6 hx7
    go_wp2_with fail
    refine (hist_any _ 4 4 exL 5 _ (by omega) (SV.lift HS.out (Nat.le_refl _) HX7.out)).mono ?_
    rintro e w6 ⟨m, A6, c6, rfl, hm, _, hx8⟩
    have hm3 : m.length = 3 := by rw [hm]; exact ex_hist
    rw [hm3]
    have HX8 := Lib.hid (HX7.out.trans hx8)
    have HB8 := Lib.hid (HBD.out.ext hx8)
    have HA8 := Lib.hid ((HA.out.ext HXz.out).ext hx8)
    have HB9 := Lib.hid ((HB.out.ext HXz.out).ext hx8)
    have HC8 := Lib.hid ((HC.out.ext HXz.out).ext hx8)
    have HD1' := Lib.hid ((HD1.out.ext HXd.out (Nat.le_refl _)).ext hx8 (HXd.out.lt))
    have HD2' := Lib.hid ((HD2.out.ext HXd.out (Nat.le_refl _)).ext hx8 (HXd.out.lt))
    have HSX := Lib.hid (SV.lift HS.out (Nat.le_refl _) HX8.out)
    have HXW := Lib.hid (HX1.out.trans HX8.out)
    have HZ4 := Lib.hid (Nat.le_trans HXd.out.lt hx8.lt)
    clear hm hm3 hx8 HA HB HC HX2 HX3 HX4 HX5 HX7 HXw HXx HXy HXz HXd HBD HD1 HD2 hza hza2
    go_upto_region 8 with (fail)
    go_cut [87] (fun s87 wx => s87 = .bool false ∧ Ext w6 wx)
    case first =>
      refine wp_region_E (fun _ => True) (fun w' => Ext w6 w') (fun _ => true) (by kernel_rfl) ?_
      obtain ⟨u0, hu0, hU0⟩ : ∃ u0, w6.drew = u0 ∧ Ext w6 u0 := ⟨_, rfl, (Ext.refl w6).drew⟩
      rw [hu0]; clear hu0
      refine wpE_takeT (i := 0) (d := some 56) (v := .slice (some ⟨w.heap.size, 0, none⟩) 4 4) rfl rfl (by kernel_rfl) (by kernel_rfl) (by kernel_rfl) rfl (fun _ _ _ h => h) (by rfl) ?hy13 hU0 ?go13
      case hy13 =>
        intro w9 hT9
        clear hT9
        go_simp
      (try simp only [Act.put, List.setIfInBounds_toArray, List.set_cons_zero, List.set_cons_succ])
      refine wpE_takeT (i := 2) (d := some 58) (v := .agg #[.int .i64 fa.en, .string fa.kd, .int .i64 fa.day, .int .i64 fa.byy, .int .i64 fa.too, .int .i64 fa.am]) rfl rfl (by kernel_rfl) (by kernel_rfl) (by kernel_rfl) rfl (fun _ _ _ h => h) (by rfl) ?hy14 hU0 ?go14
      case hy14 =>
        intro w9 hT9
        obtain ⟨_, g0, g1, g2, g3, g4, g5⟩ := HA8.out.ext hT9
        clear hT9
        go_simp
      (try simp only [Act.put, List.setIfInBounds_toArray, List.set_cons_zero, List.set_cons_succ])
      refine wpE_all (rs := [1, 3]) (by kernel_rfl) (by simp) ?_
      refine AllE.cons rfl (fun K hK => ?_) ?_
      · simp only [List.getElem_toArray, List.getElem_cons_succ, List.getElem_cons_zero]
        go_simp; go_at_call 30
        refine (ex_at_any w6 _ _ 2 [fa] HSX.out hU0 ex_at2).mono ?_
        rintro e ua1 ⟨A1, q1, rfl, hs1, hx1⟩
        simp only []
        have hV1 := hU0.trans hx1
        refine hK.out _ _ ⟨fun _ => trivial, hV1⟩ (fun _ => ?_)
        clear hK K
        (try simp only [Act.put, List.setIfInBounds_toArray, List.set_cons_zero, List.set_cons_succ])
        refine wpE_all (rs := [3]) (by kernel_rfl) (by simp) ?_
        refine AllE.cons rfl (fun K hK => ?_) AllE.nil
        simp only [List.getElem_toArray, List.getElem_cons_succ, List.getElem_cons_zero]
        go_simp
        have hY1 := hV1.alloc (.cells #[.int .i64 fa.en, .string fa.kd, .int .i64 fa.day, .int .i64 fa.byy, .int .i64 fa.too, .int .i64 fa.am] 24)
        refine hK.out _ _ ⟨fun _ => trivial, hY1⟩ (fun _ => ?_)
        clear hK K
        (try simp only [Act.put, List.setIfInBounds_toArray, List.set_cons_zero, List.set_cons_succ])
        refine wpE_all (rs := [4]) (by kernel_rfl) (by simp) ?_
        refine AllE.cons rfl (fun K hK => ?_) AllE.nil
        simp only [List.getElem_toArray, List.getElem_cons_succ, List.getElem_cons_zero]
        go_simp; go_at_call 29
        refine (ex_same_any _ _ _ _ _ _ _ [fa] (hs1.lift (Nat.le_refl _) ((Ext.refl ua1).alloc (.cells #[.int .i64 fa.en, .string fa.kd, .int .i64 fa.day, .int .i64 fa.byy, .int .i64 fa.too, .int .i64 fa.am] 24))) ((SF.one ua1 fa 24).more (by simp)) (by decide)).mono ?_
        rintro e ub1 ⟨rfl, hz1⟩
        simp only []
        have hU1 := hY1.trans hz1
        refine hK.out _ _ ⟨fun _ => trivial, hU1⟩ (fun _ => ?_)
        clear hK K
        (try simp only [Act.put, List.setIfInBounds_toArray, List.set_cons_zero, List.set_cons_succ])
        clear hz1 hs1 hx1
        refine wpE_takeT (i := 5) (d := some 61) (v := .bool false) rfl rfl (by kernel_rfl) (by kernel_rfl) (by kernel_rfl) rfl (fun _ _ _ h => h) (by rfl) ?hy15 hU1 ?go15
        case hy15 =>
          intro w9 hT9
          clear hT9
          go_simp
        (try simp only [Act.put, List.setIfInBounds_toArray, List.set_cons_zero, List.set_cons_succ])
        refine wpE_takeT (i := 6) (d := some 62) (v := .bool false) rfl rfl (by kernel_rfl) (by kernel_rfl) (by kernel_rfl) rfl (fun _ _ _ h => h) (by rfl) ?hy16 hU1 ?go16
        case hy16 =>
          intro w9 hT9
          clear hT9
          go_simp
        (try simp only [Act.put, List.setIfInBounds_toArray, List.set_cons_zero, List.set_cons_succ])
        refine wpE_takeT (i := 7) (d := some 63) (v := .slice (some ⟨w.heap.size, 0, none⟩) 4 4) rfl rfl (by kernel_rfl) (by kernel_rfl) (by kernel_rfl) rfl (fun _ _ _ h => h) (by rfl) ?hy17 hU1 ?go17
        case hy17 =>
          intro w9 hT9
          clear hT9
          go_simp
        (try simp only [Act.put, List.setIfInBounds_toArray, List.set_cons_zero, List.set_cons_succ])
        refine wpE_takeT (i := 9) (d := some 65) (v := .agg #[.int .i64 fb.en, .string fb.kd, .int .i64 fb.day, .int .i64 fb.byy, .int .i64 fb.too, .int .i64 fb.am]) rfl rfl (by kernel_rfl) (by kernel_rfl) (by kernel_rfl) rfl (fun _ _ _ h => h) (by rfl) ?hy18 hU1 ?go18
        case hy18 =>
          intro w9 hT9
          obtain ⟨_, g0, g1, g2, g3, g4, g5⟩ := HB9.out.ext hT9
          clear hT9
          go_simp
        (try simp only [Act.put, List.setIfInBounds_toArray, List.set_cons_zero, List.set_cons_succ])
        refine wpE_takeT (i := 10) (d := some 66) (v := .agg #[.int .i64 fa.en, .string fa.kd, .int .i64 fa.day, .int .i64 fa.byy, .int .i64 fa.too, .int .i64 fa.am]) rfl rfl (by kernel_rfl) (by kernel_rfl) (by kernel_rfl) rfl (fun _ _ _ h => h) (by rfl) ?hy19 hU1 ?go19
        case hy19 =>
          intro w9 hT9
          obtain ⟨_, g0, g1, g2, g3, g4, g5⟩ := HA8.out.ext hT9
          clear hT9
          go_simp
        (try simp only [Act.put, List.setIfInBounds_toArray, List.set_cons_zero, List.set_cons_succ])
        refine wpE_all (rs := [8, 11]) (by kernel_rfl) (by simp) ?_
        refine AllE.cons rfl (fun K hK => ?_) ?_
        · simp only [List.getElem_toArray, List.getElem_cons_succ, List.getElem_cons_zero]
          go_simp; go_at_call 30
          refine (ex_at_any w6 _ _ 6 [fb, fa] HSX.out hU1 ex_at6).mono ?_
          rintro e ua2 ⟨A2, q2, rfl, hs2, hx2⟩
          simp only []
          have hV2 := hU1.trans hx2
          refine hK.out _ _ ⟨fun _ => trivial, hV2⟩ (fun _ => ?_)
          clear hK K
          (try simp only [Act.put, List.setIfInBounds_toArray, List.set_cons_zero, List.set_cons_succ])
          refine wpE_all (rs := [11]) (by kernel_rfl) (by simp) ?_
          refine AllE.cons rfl (fun K hK => ?_) AllE.nil
          simp only [List.getElem_toArray, List.getElem_cons_succ, List.getElem_cons_zero]
          go_simp
          have hY2 := hV2.alloc (.cells #[.int .i64 fb.en, .string fb.kd, .int .i64 fb.day, .int .i64 fb.byy, .int .i64 fb.too, .int .i64 fb.am, .int .i64 fa.en, .string fa.kd, .int .i64 fa.day, .int .i64 fa.byy, .int .i64 fa.too, .int .i64 fa.am] 24)
          refine hK.out _ _ ⟨fun _ => trivial, hY2⟩ (fun _ => ?_)
          clear hK K
          (try simp only [Act.put, List.setIfInBounds_toArray, List.set_cons_zero, List.set_cons_succ])
          refine wpE_all (rs := [12]) (by kernel_rfl) (by simp) ?_
          refine AllE.cons rfl (fun K hK => ?_) AllE.nil
          simp only [List.getElem_toArray, List.getElem_cons_succ, List.getElem_cons_zero]
          go_simp; go_at_call 29
          refine (ex_same_any _ _ _ _ _ _ _ [fb, fa] (hs2.lift (Nat.le_refl _) ((Ext.refl ua2).alloc (.cells #[.int .i64 fb.en, .string fb.kd, .int .i64 fb.day, .int .i64 fb.byy, .int .i64 fb.too, .int .i64 fb.am, .int .i64 fa.en, .string fa.kd, .int .i64 fa.day, .int .i64 fa.byy, .int .i64 fa.too, .int .i64 fa.am] 24))) ((SF.two ua2 fb fa 24).more (by simp)) (by decide)).mono ?_
          rintro e ub2 ⟨rfl, hz2⟩
          simp only []
          have hU2 := hY2.trans hz2
          refine hK.out _ _ ⟨fun _ => trivial, hU2⟩ (fun _ => ?_)
          clear hK K
          (try simp only [Act.put, List.setIfInBounds_toArray, List.set_cons_zero, List.set_cons_succ])
          clear hz2 hs2 hx2
          refine wpE_takeT (i := 13) (d := some 69) (v := .bool false) rfl rfl (by kernel_rfl) (by kernel_rfl) (by kernel_rfl) rfl (fun _ _ _ h => h) (by rfl) ?hy20 hU2 ?go20
          case hy20 =>
            intro w9 hT9
            clear hT9
            go_simp
          (try simp only [Act.put, List.setIfInBounds_toArray, List.set_cons_zero, List.set_cons_succ])
          refine wpE_takeT (i := 14) (d := some 70) (v := .bool false) rfl rfl (by kernel_rfl) (by kernel_rfl) (by kernel_rfl) rfl (fun _ _ _ h => h) (by rfl) ?hy21 hU2 ?go21
          case hy21 =>
            intro w9 hT9
            clear hT9
            go_simp
          (try simp only [Act.put, List.setIfInBounds_toArray, List.set_cons_zero, List.set_cons_succ])
          refine wpE_takeT (i := 15) (d := some 71) (v := .bool false) rfl rfl (by kernel_rfl) (by kernel_rfl) (by kernel_rfl) rfl (fun _ _ _ h => h) (by rfl) ?hy22 hU2 ?go22
          case hy22 =>
            intro w9 hT9
            clear hT9
            go_simp
          (try simp only [Act.put, List.setIfInBounds_toArray, List.set_cons_zero, List.set_cons_succ])
          refine wpE_takeT (i := 16) (d := some 72) (v := .slice (some ⟨w.heap.size, 0, none⟩) 4 4) rfl rfl (by kernel_rfl) (by kernel_rfl) (by kernel_rfl) rfl (fun _ _ _ h => h) (by rfl) ?hy23 hU2 ?go23
          case hy23 =>
            intro w9 hT9
            clear hT9
            go_simp
          (try simp only [Act.put, List.setIfInBounds_toArray, List.set_cons_zero, List.set_cons_succ])
          refine wpE_takeT (i := 18) (d := some 74) (v := .agg #[.int .i64 fb.en, .string fb.kd, .int .i64 fb.day, .int .i64 fb.byy, .int .i64 fb.too, .int .i64 fb.am]) rfl rfl (by kernel_rfl) (by kernel_rfl) (by kernel_rfl) rfl (fun _ _ _ h => h) (by rfl) ?hy24 hU2 ?go24
          case hy24 =>
            intro w9 hT9
            obtain ⟨_, g0, g1, g2, g3, g4, g5⟩ := HB9.out.ext hT9
            clear hT9
            go_simp
          (try simp only [Act.put, List.setIfInBounds_toArray, List.set_cons_zero, List.set_cons_succ])
          refine wpE_takeT (i := 19) (d := some 75) (v := .agg #[.int .i64 fcc.en, .string fcc.kd, .int .i64 fcc.day, .int .i64 fcc.byy, .int .i64 fcc.too, .int .i64 fcc.am]) rfl rfl (by kernel_rfl) (by kernel_rfl) (by kernel_rfl) rfl (fun _ _ _ h => h) (by rfl) ?hy25 hU2 ?go25
          case hy25 =>
            intro w9 hT9
            obtain ⟨_, g0, g1, g2, g3, g4, g5⟩ := HC8.out.ext hT9
            clear hT9
            go_simp
          (try simp only [Act.put, List.setIfInBounds_toArray, List.set_cons_zero, List.set_cons_succ])
          refine wpE_all (rs := [17, 20]) (by kernel_rfl) (by simp) ?_
          refine AllE.cons rfl (fun K hK => ?_) ?_
          · simp only [List.getElem_toArray, List.getElem_cons_succ, List.getElem_cons_zero]
            go_simp; go_at_call 30
            refine (ex_at_any w6 _ _ 8 [fb, fcc] HSX.out hU2 ex_at8).mono ?_
            rintro e ua3 ⟨A3, q3, rfl, hs3, hx3⟩
            simp only []
            have hV3 := hU2.trans hx3
            refine hK.out _ _ ⟨fun _ => trivial, hV3⟩ (fun _ => ?_)
            clear hK K
            (try simp only [Act.put, List.setIfInBounds_toArray, List.set_cons_zero, List.set_cons_succ])
            refine wpE_all (rs := [20]) (by kernel_rfl) (by simp) ?_
            refine AllE.cons rfl (fun K hK => ?_) AllE.nil
            simp only [List.getElem_toArray, List.getElem_cons_succ, List.getElem_cons_zero]
            go_simp
            have hY3 := hV3.alloc (.cells #[.int .i64 fb.en, .string fb.kd, .int .i64 fb.day, .int .i64 fb.byy, .int .i64 fb.too, .int .i64 fb.am, .int .i64 fcc.en, .string fcc.kd, .int .i64 fcc.day, .int .i64 fcc.byy, .int .i64 fcc.too, .int .i64 fcc.am] 24)
            refine hK.out _ _ ⟨fun _ => trivial, hY3⟩ (fun _ => ?_)
            clear hK K
            (try simp only [Act.put, List.setIfInBounds_toArray, List.set_cons_zero, List.set_cons_succ])
            refine wpE_all (rs := [21]) (by kernel_rfl) (by simp) ?_
            refine AllE.cons rfl (fun K hK => ?_) AllE.nil
            simp only [List.getElem_toArray, List.getElem_cons_succ, List.getElem_cons_zero]
            go_simp; go_at_call 29
            refine (ex_same_any _ _ _ _ _ _ _ [fb, fcc] (hs3.lift (Nat.le_refl _) ((Ext.refl ua3).alloc (.cells #[.int .i64 fb.en, .string fb.kd, .int .i64 fb.day, .int .i64 fb.byy, .int .i64 fb.too, .int .i64 fb.am, .int .i64 fcc.en, .string fcc.kd, .int .i64 fcc.day, .int .i64 fcc.byy, .int .i64 fcc.too, .int .i64 fcc.am] 24))) ((SF.two ua3 fb fcc 24).more (by simp)) (by decide)).mono ?_
            rintro e ub3 ⟨rfl, hz3⟩
            simp only []
            have hU3 := hY3.trans hz3
            refine hK.out _ _ ⟨fun _ => trivial, hU3⟩ (fun _ => ?_)
            clear hK K
            (try simp only [Act.put, List.setIfInBounds_toArray, List.set_cons_zero, List.set_cons_succ])
            clear hz3 hs3 hx3
            refine wpE_takeT (i := 22) (d := some 78) (v := .bool false) rfl rfl (by kernel_rfl) (by kernel_rfl) (by kernel_rfl) rfl (fun _ _ _ h => h) (by rfl) ?hy26 hU3 ?go26
            case hy26 =>
              intro w9 hT9
              clear hT9
              go_simp
            (try simp only [Act.put, List.setIfInBounds_toArray, List.set_cons_zero, List.set_cons_succ])
            refine wpE_takeT (i := 23) (d := some 79) (v := .bool false) rfl rfl (by kernel_rfl) (by kernel_rfl) (by kernel_rfl) rfl (fun _ _ _ h => h) (by rfl) ?hy27 hU3 ?go27
            case hy27 =>
              intro w9 hT9
              clear hT9
              go_simp
            (try simp only [Act.put, List.setIfInBounds_toArray, List.set_cons_zero, List.set_cons_succ])
            refine wpE_takeT (i := 24) (d := some 80) (v := .bool false) rfl rfl (by kernel_rfl) (by kernel_rfl) (by kernel_rfl) rfl (fun _ _ _ h => h) (by rfl) ?hy28 hU3 ?go28
            case hy28 =>
              intro w9 hT9
              clear hT9
              go_simp
            (try simp only [Act.put, List.setIfInBounds_toArray, List.set_cons_zero, List.set_cons_succ])
            refine wpE_takeT (i := 25) (d := some 81) (v := .slice (some ⟨w.heap.size, 0, none⟩) 4 4) rfl rfl (by kernel_rfl) (by kernel_rfl) (by kernel_rfl) rfl (fun _ _ _ h => h) (by rfl) ?hy29 hU3 ?go29
            case hy29 =>
              intro w9 hT9
              clear hT9
              go_simp
            (try simp only [Act.put, List.setIfInBounds_toArray, List.set_cons_zero, List.set_cons_succ])
            refine wpE_takeT (i := 27) (d := some 83) (v := .agg #[.int .i64 fb.en, .string fb.kd, .int .i64 fb.day, .int .i64 fb.byy, .int .i64 fb.too, .int .i64 fb.am]) rfl rfl (by kernel_rfl) (by kernel_rfl) (by kernel_rfl) rfl (fun _ _ _ h => h) (by rfl) ?hy30 hU3 ?go30
            case hy30 =>
              intro w9 hT9
              obtain ⟨_, g0, g1, g2, g3, g4, g5⟩ := HB9.out.ext hT9
              clear hT9
              go_simp
            (try simp only [Act.put, List.setIfInBounds_toArray, List.set_cons_zero, List.set_cons_succ])
            refine wpE_all (rs := [26, 28]) (by kernel_rfl) (by simp) ?_
            refine AllE.cons rfl (fun K hK => ?_) ?_
            · simp only [List.getElem_toArray, List.getElem_cons_succ, List.getElem_cons_zero]
              go_simp; go_at_call 30
              refine (ex_at_any w6 _ _ 9 [fb] HSX.out hU3 ex_at9).mono ?_
              rintro e ua4 ⟨A4, q4, rfl, hs4, hx4⟩
              simp only []
              have hV4 := hU3.trans hx4
              refine hK.out _ _ ⟨fun _ => trivial, hV4⟩ (fun _ => ?_)
              clear hK K
              (try simp only [Act.put, List.setIfInBounds_toArray, List.set_cons_zero, List.set_cons_succ])
              refine wpE_all (rs := [28]) (by kernel_rfl) (by simp) ?_
              refine AllE.cons rfl (fun K hK => ?_) AllE.nil
              simp only [List.getElem_toArray, List.getElem_cons_succ, List.getElem_cons_zero]
              go_simp
              have hY4 := hV4.alloc (.cells #[.int .i64 fb.en, .string fb.kd, .int .i64 fb.day, .int .i64 fb.byy, .int .i64 fb.too, .int .i64 fb.am] 24)
              refine hK.out _ _ ⟨fun _ => trivial, hY4⟩ (fun _ => ?_)
              clear hK K
              (try simp only [Act.put, List.setIfInBounds_toArray, List.set_cons_zero, List.set_cons_succ])
              refine wpE_all (rs := [29]) (by kernel_rfl) (by simp) ?_
              refine AllE.cons rfl (fun K hK => ?_) AllE.nil
              simp only [List.getElem_toArray, List.getElem_cons_succ, List.getElem_cons_zero]
              go_simp; go_at_call 29
              refine (ex_same_any _ _ _ _ _ _ _ [fb] (hs4.lift (Nat.le_refl _) ((Ext.refl ua4).alloc (.cells #[.int .i64 fb.en, .string fb.kd, .int .i64 fb.day, .int .i64 fb.byy, .int .i64 fb.too, .int .i64 fb.am] 24))) ((SF.one ua4 fb 24).more (by simp)) (by decide)).mono ?_
              rintro e ub4 ⟨rfl, hz4⟩
              simp only []
              have hU4 := hY4.trans hz4
              refine hK.out _ _ ⟨fun _ => trivial, hU4⟩ (fun _ => ?_)
              clear hK K
              (try simp only [Act.put, List.setIfInBounds_toArray, List.set_cons_zero, List.set_cons_succ])
              clear hz4 hs4 hx4
              refine wpE_takeT (i := 30) (d := some 86) (v := .bool false) rfl rfl (by kernel_rfl) (by kernel_rfl) (by kernel_rfl) rfl (fun _ _ _ h => h) (by rfl) ?hy31 hU4 ?go31
              case hy31 =>
                intro w9 hT9
                clear hT9
                go_simp
              (try simp only [Act.put, List.setIfInBounds_toArray, List.set_cons_zero, List.set_cons_succ])
              refine wpE_takeT (i := 31) (d := some 87) (v := .bool false) rfl rfl (by kernel_rfl) (by kernel_rfl) (by kernel_rfl) rfl (fun _ _ _ h => h) (by rfl) ?hy32 hU4 ?go32
              case hy32 =>
                intro w9 hT9
                clear hT9
                go_simp
              (try simp only [Act.put, List.setIfInBounds_toArray, List.set_cons_zero, List.set_cons_succ])
              refine wpE_done (by kernel_rfl) ?_ _
              go_wp2_with fail
              go_meet
              case rel => exact ⟨rfl, hU4⟩
            refine AllE.cons rfl (fun K hK => ?_) ?_
            · simp only [List.getElem_toArray, List.getElem_cons_succ, List.getElem_cons_zero]
              go_simp
              have hY4 := hU3.alloc (.cells #[.int .i64 fb.en, .string fb.kd, .int .i64 fb.day, .int .i64 fb.byy, .int .i64 fb.too, .int .i64 fb.am] 24)
              refine hK.out _ _ ⟨fun _ => trivial, hY4⟩ (fun _ => ?_)
              clear hK K
              (try simp only [Act.put, List.setIfInBounds_toArray, List.set_cons_zero, List.set_cons_succ])
              refine wpE_all (rs := [26]) (by kernel_rfl) (by simp) ?_
              refine AllE.cons rfl (fun K hK => ?_) AllE.nil
              simp only [List.getElem_toArray, List.getElem_cons_succ, List.getElem_cons_zero]
              go_simp; go_at_call 30
              refine (ex_at_any w6 _ _ 9 [fb] HSX.out hY4 ex_at9).mono ?_
              rintro e ua4 ⟨A4, q4, rfl, hs4, hx4⟩
              simp only []
              have hV4 := hY4.trans hx4
              refine hK.out _ _ ⟨fun _ => trivial, hV4⟩ (fun _ => ?_)
              clear hK K
              (try simp only [Act.put, List.setIfInBounds_toArray, List.set_cons_zero, List.set_cons_succ])
              refine wpE_all (rs := [29]) (by kernel_rfl) (by simp) ?_
              refine AllE.cons rfl (fun K hK => ?_) AllE.nil
              simp only [List.getElem_toArray, List.getElem_cons_succ, List.getElem_cons_zero]
              go_simp; go_at_call 29
              refine (ex_same_any _ _ _ _ _ _ _ [fb] hs4 (((SF.one ub3 fb 24).more (by simp)).lift (Nat.le_refl _) hx4) (by decide)).mono ?_
              rintro e ub4 ⟨rfl, hz4⟩
              simp only []
              have hU4 := hV4.trans hz4
              refine hK.out _ _ ⟨fun _ => trivial, hU4⟩ (fun _ => ?_)
              clear hK K
              (try simp only [Act.put, List.setIfInBounds_toArray, List.set_cons_zero, List.set_cons_succ])
              clear hz4 hs4 hx4
              refine wpE_takeT (i := 30) (d := some 86) (v := .bool false) rfl rfl (by kernel_rfl) (by kernel_rfl) (by kernel_rfl) rfl (fun _ _ _ h => h) (by rfl) ?hy33 hU4 ?go33
              case hy33 =>
                intro w9 hT9
                clear hT9
                go_simp
              (try simp only [Act.put, List.setIfInBounds_toArray, List.set_cons_zero, List.set_cons_succ])
              refine wpE_takeT (i := 31) (d := some 87) (v := .bool false) rfl rfl (by kernel_rfl) (by kernel_rfl) (by kernel_rfl) rfl (fun _ _ _ h => h) (by rfl) ?hy34 hU4 ?go34
              case hy34 =>
                intro w9 hT9
                clear hT9
                go_simp
              (try simp only [Act.put, List.setIfInBounds_toArray, List.set_cons_zero, List.set_cons_succ])
              refine wpE_done (by kernel_rfl) ?_ _
              go_wp2_with fail
              go_meet
              case rel => exact ⟨rfl, hU4⟩
            exact AllE.nil
          refine AllE.cons rfl (fun K hK => ?_) ?_
          · simp only [List.getElem_toArray, List.getElem_cons_succ, List.getElem_cons_zero]
            go_simp
            have hY3 := hU2.alloc (.cells #[.int .i64 fb.en, .string fb.kd, .int .i64 fb.day, .int .i64 fb.byy, .int .i64 fb.too, .int .i64 fb.am, .int .i64 fcc.en, .string fcc.kd, .int .i64 fcc.day, .int .i64 fcc.byy, .int .i64 fcc.too, .int .i64 fcc.am] 24)
            refine hK.out _ _ ⟨fun _ => trivial, hY3⟩ (fun _ => ?_)
            clear hK K
            (try simp only [Act.put, List.setIfInBounds_toArray, List.set_cons_zero, List.set_cons_succ])
            refine wpE_all (rs := [17]) (by kernel_rfl) (by simp) ?_
            refine AllE.cons rfl (fun K hK => ?_) AllE.nil
            simp only [List.getElem_toArray, List.getElem_cons_succ, List.getElem_cons_zero]
            go_simp; go_at_call 30
            refine (ex_at_any w6 _ _ 8 [fb, fcc] HSX.out hY3 ex_at8).mono ?_
            rintro e ua3 ⟨A3, q3, rfl, hs3, hx3⟩
            simp only []
            have hV3 := hY3.trans hx3
            refine hK.out _ _ ⟨fun _ => trivial, hV3⟩ (fun _ => ?_)
            clear hK K
            (try simp only [Act.put, List.setIfInBounds_toArray, List.set_cons_zero, List.set_cons_succ])
            refine wpE_all (rs := [21]) (by kernel_rfl) (by simp) ?_
            refine AllE.cons rfl (fun K hK => ?_) AllE.nil
            simp only [List.getElem_toArray, List.getElem_cons_succ, List.getElem_cons_zero]
            go_simp; go_at_call 29
            refine (ex_same_any _ _ _ _ _ _ _ [fb, fcc] hs3 (((SF.two ub2 fb fcc 24).more (by simp)).lift (Nat.le_refl _) hx3) (by decide)).mono ?_
            rintro e ub3 ⟨rfl, hz3⟩
            simp only []
            have hU3 := hV3.trans hz3
            refine hK.out _ _ ⟨fun _ => trivial, hU3⟩ (fun _ => ?_)
            clear hK K
            (try simp only [Act.put, List.setIfInBounds_toArray, List.set_cons_zero, List.set_cons_succ])
            clear hz3 hs3 hx3
            refine wpE_takeT (i := 22) (d := some 78) (v := .bool false) rfl rfl (by kernel_rfl) (by kernel_rfl) (by kernel_rfl) rfl (fun _ _ _ h => h) (by rfl) ?hy35 hU3 ?go35
            case hy35 =>
              intro w9 hT9
              clear hT9
              go_simp
            (try simp only [Act.put, List.setIfInBounds_toArray, List.set_cons_zero, List.set_cons_succ])
            refine wpE_takeT (i := 23) (d := some 79) (v := .bool false) rfl rfl (by kernel_rfl) (by kernel_rfl) (by kernel_rfl) rfl (fun _ _ _ h => h) (by rfl) ?hy36 hU3 ?go36
            case hy36 =>
              intro w9 hT9
              clear hT9
              go_simp
            (try simp only [Act.put, List.setIfInBounds_toArray, List.set_cons_zero, List.set_cons_succ])
            refine wpE_takeT (i := 24) (d := some 80) (v := .bool false) rfl rfl (by kernel_rfl) (by kernel_rfl) (by kernel_rfl) rfl (fun _ _ _ h => h) (by rfl) ?hy37 hU3 ?go37
            case hy37 =>
              intro w9 hT9
              clear hT9
              go_simp
            (try simp only [Act.put, List.setIfInBounds_toArray, List.set_cons_zero, List.set_cons_succ])
            refine wpE_takeT (i := 25) (d := some 81) (v := .slice (some ⟨w.heap.size, 0, none⟩) 4 4) rfl rfl (by kernel_rfl) (by kernel_rfl) (by kernel_rfl) rfl (fun _ _ _ h => h) (by rfl) ?hy38 hU3 ?go38
            case hy38 =>
              intro w9 hT9
              clear hT9
              go_simp
            (try simp only [Act.put, List.setIfInBounds_toArray, List.set_cons_zero, List.set_cons_succ])
            refine wpE_takeT (i := 27) (d := some 83) (v := .agg #[.int .i64 fb.en, .string fb.kd, .int .i64 fb.day, .int .i64 fb.byy, .int .i64 fb.too, .int .i64 fb.am]) rfl rfl (by kernel_rfl) (by kernel_rfl) (by kernel_rfl) rfl (fun _ _ _ h => h) (by rfl) ?hy39 hU3 ?go39
            case hy39 =>
              intro w9 hT9
              obtain ⟨_, g0, g1, g2, g3, g4, g5⟩ := HB9.out.ext hT9
              clear hT9
              go_simp
            (try simp only [Act.put, List.setIfInBounds_toArray, List.set_cons_zero, List.set_cons_succ])
            refine wpE_all (rs := [26, 28]) (by kernel_rfl) (by simp) ?_
            refine AllE.cons rfl (fun K hK => ?_) ?_
            · simp only [List.getElem_toArray, List.getElem_cons_succ, List.getElem_cons_zero]
              go_simp; go_at_call 30
              refine (ex_at_any w6 _ _ 9 [fb] HSX.out hU3 ex_at9).mono ?_
              rintro e ua4 ⟨A4, q4, rfl, hs4, hx4⟩
              simp only []
              have hV4 := hU3.trans hx4
              refine hK.out _ _ ⟨fun _ => trivial, hV4⟩ (fun _ => ?_)
              clear hK K
              (try simp only [Act.put, List.setIfInBounds_toArray, List.set_cons_zero, List.set_cons_succ])
              refine wpE_all (rs := [28]) (by kernel_rfl) (by simp) ?_
              refine AllE.cons rfl (fun K hK => ?_) AllE.nil
              simp only [List.getElem_toArray, List.getElem_cons_succ, List.getElem_cons_zero]
              go_simp
              have hY4 := hV4.alloc (.cells #[.int .i64 fb.en, .string fb.kd, .int .i64 fb.day, .int .i64 fb.byy, .int .i64 fb.too, .int .i64 fb.am] 24)
              refine hK.out _ _ ⟨fun _ => trivial, hY4⟩ (fun _ => ?_)
              clear hK K
              (try simp only [Act.put, List.setIfInBounds_toArray, List.set_cons_zero, List.set_cons_succ])
              refine wpE_all (rs := [29]) (by kernel_rfl) (by simp) ?_
              refine AllE.cons rfl (fun K hK => ?_) AllE.nil
              simp only [List.getElem_toArray, List.getElem_cons_succ, List.getElem_cons_zero]
              go_simp; go_at_call 29
              refine (ex_same_any _ _ _ _ _ _ _ [fb] (hs4.lift (Nat.le_refl _) ((Ext.refl ua4).alloc (.cells #[.int .i64 fb.en, .string fb.kd, .int .i64 fb.day, .int .i64 fb.byy, .int .i64 fb.too, .int .i64 fb.am] 24))) ((SF.one ua4 fb 24).more (by simp)) (by decide)).mono ?_
              rintro e ub4 ⟨rfl, hz4⟩
              simp only []
              have hU4 := hY4.trans hz4
              refine hK.out _ _ ⟨fun _ => trivial, hU4⟩ (fun _ => ?_)
              clear hK K
              (try simp only [Act.put, List.setIfInBounds_toArray, List.set_cons_zero, List.set_cons_succ])
              clear hz4 hs4 hx4
              refine wpE_takeT (i := 30) (d := some 86) (v := .bool false) rfl rfl (by kernel_rfl) (by kernel_rfl) (by kernel_rfl) rfl (fun _ _ _ h => h) (by rfl) ?hy40 hU4 ?go40
              case hy40 =>
                intro w9 hT9
                clear hT9
                go_simp
              (try simp only [Act.put, List.setIfInBounds_toArray, List.set_cons_zero, List.set_cons_succ])
              refine wpE_takeT (i := 31) (d := some 87) (v := .bool false) rfl rfl (by kernel_rfl) (by kernel_rfl) (by kernel_rfl) rfl (fun _ _ _ h => h) (by rfl) ?hy41 hU4 ?go41
              case hy41 =>
                intro w9 hT9
                clear hT9
                go_simp
              (try simp only [Act.put, List.setIfInBounds_toArray, List.set_cons_zero, List.set_cons_succ])
              refine wpE_done (by kernel_rfl) ?_ _
              go_wp2_with fail
              go_meet
              case rel => exact ⟨rfl, hU4⟩
            refine AllE.cons rfl (fun K hK => ?_) ?_
            · simp only [List.getElem_toArray, List.getElem_cons_succ, List.getElem_cons_zero]
              go_simp
              have hY4 := hU3.alloc (.cells #[.int .i64 fb.en, .string fb.kd, .int .i64 fb.day, .int .i64 fb.byy, .int .i64 fb.too, .int .i64 fb.am] 24)
              refine hK.out _ _ ⟨fun _ => trivial, hY4⟩ (fun _ => ?_)
              clear hK K
              (try simp only [Act.put, List.setIfInBounds_toArray, List.set_cons_zero, List.set_cons_succ])
              refine wpE_all (rs := [26]) (by kernel_rfl) (by simp) ?_
              refine AllE.cons rfl (fun K hK => ?_) AllE.nil
              simp only [List.getElem_toArray, List.getElem_cons_succ, List.getElem_cons_zero]
              go_simp; go_at_call 30
              refine (ex_at_any w6 _ _ 9 [fb] HSX.out hY4 ex_at9).mono ?_
              rintro e ua4 ⟨A4, q4, rfl, hs4, hx4⟩
              simp only []
              have hV4 := hY4.trans hx4
              refine hK.out _ _ ⟨fun _ => trivial, hV4⟩ (fun _ => ?_)
              clear hK K
              (try simp only [Act.put, List.setIfInBounds_toArray, List.set_cons_zero, List.set_cons_succ])
              refine wpE_all (rs := [29]) (by kernel_rfl) (by simp) ?_
              refine AllE.cons rfl (fun K hK => ?_) AllE.nil
              simp only [List.getElem_toArray, List.getElem_cons_succ, List.getElem_cons_zero]
              go_simp; go_at_call 29
              refine (ex_same_any _ _ _ _ _ _ _ [fb] hs4 (((SF.one ub3 fb 24).more (by simp)).lift (Nat.le_refl _) hx4) (by decide)).mono ?_
              rintro e ub4 ⟨rfl, hz4⟩
              simp only []
              have hU4 := hV4.trans hz4
              refine hK.out _ _ ⟨fun _ => trivial, hU4⟩ (fun _ => ?_)
              clear hK K
              (try simp only [Act.put, List.setIfInBounds_toArray, List.set_cons_zero, List.set_cons_succ])
              clear hz4 hs4 hx4
              refine wpE_takeT (i := 30) (d := some 86) (v := .bool false) rfl rfl (by kernel_rfl) (by kernel_rfl) (by kernel_rfl) rfl (fun _ _ _ h => h) (by rfl) ?hy42 hU4 ?go42
              case hy42 =>
                intro w9 hT9
                clear hT9
                go_simp
              (try simp only [Act.put, List.setIfInBounds_toArray, List.set_cons_zero, List.set_cons_succ])
              refine wpE_takeT (i := 31) (d := some 87) (v := .bool false) rfl rfl (by kernel_rfl) (by kernel_rfl) (by kernel_rfl) rfl (fun _ _ _ h => h) (by rfl) ?hy43 hU4 ?go43
              case hy43 =>
                intro w9 hT9
                clear hT9
                go_simp
              (try simp only [Act.put, List.setIfInBounds_toArray, List.set_cons_zero, List.set_cons_succ])
              refine wpE_done (by kernel_rfl) ?_ _
              go_wp2_with fail
              go_meet
              case rel => exact ⟨rfl, hU4⟩
            exact AllE.nil
          exact AllE.nil
        refine AllE.cons rfl (fun K hK => ?_) ?_
        · simp only [List.getElem_toArray, List.getElem_cons_succ, List.getElem_cons_zero]
          go_simp
          have hY2 := hU1.alloc (.cells #[.int .i64 fb.en, .string fb.kd, .int .i64 fb.day, .int .i64 fb.byy, .int .i64 fb.too, .int .i64 fb.am, .int .i64 fa.en, .string fa.kd, .int .i64 fa.day, .int .i64 fa.byy, .int .i64 fa.too, .int .i64 fa.am] 24)
          refine hK.out _ _ ⟨fun _ => trivial, hY2⟩ (fun _ => ?_)
          clear hK K
          (try simp only [Act.put, List.setIfInBounds_toArray, List.set_cons_zero, List.set_cons_succ])
          refine wpE_all (rs := [8]) (by kernel_rfl) (by simp) ?_
          refine AllE.cons rfl (fun K hK => ?_) AllE.nil
          simp only [List.getElem_toArray, List.getElem_cons_succ, List.getElem_cons_zero]
          go_simp; go_at_call 30
          refine (ex_at_any w6 _ _ 6 [fb, fa] HSX.out hY2 ex_at6).mono ?_
          rintro e ua2 ⟨A2, q2, rfl, hs2, hx2⟩
          simp only []
          have hV2 := hY2.trans hx2
          refine hK.out _ _ ⟨fun _ => trivial, hV2⟩ (fun _ => ?_)
          clear hK K
          (try simp only [Act.put, List.setIfInBounds_toArray, List.set_cons_zero, List.set_cons_succ])
          refine wpE_all (rs := [12]) (by kernel_rfl) (by simp) ?_
          refine AllE.cons rfl (fun K hK => ?_) AllE.nil
          simp only [List.getElem_toArray, List.getElem_cons_succ, List.getElem_cons_zero]
          go_simp; go_at_call 29
          refine (ex_same_any _ _ _ _ _ _ _ [fb, fa] hs2 (((SF.two ub1 fb fa 24).more (by simp)).lift (Nat.le_refl _) hx2) (by decide)).mono ?_
          rintro e ub2 ⟨rfl, hz2⟩
          simp only []
          have hU2 := hV2.trans hz2
          refine hK.out _ _ ⟨fun _ => trivial, hU2⟩ (fun _ => ?_)
          clear hK K
          (try simp only [Act.put, List.setIfInBounds_toArray, List.set_cons_zero, List.set_cons_succ])
          clear hz2 hs2 hx2
          refine wpE_takeT (i := 13) (d := some 69) (v := .bool false) rfl rfl (by kernel_rfl) (by kernel_rfl) (by kernel_rfl) rfl (fun _ _ _ h => h) (by rfl) ?hy44 hU2 ?go44
          case hy44 =>
            intro w9 hT9
            clear hT9
            go_simp
          (try simp only [Act.put, List.setIfInBounds_toArray, List.set_cons_zero, List.set_cons_succ])
          refine wpE_takeT (i := 14) (d := some 70) (v := .bool false) rfl rfl (by kernel_rfl) (by kernel_rfl) (by kernel_rfl) rfl (fun _ _ _ h => h) (by rfl) ?hy45 hU2 ?go45
          case hy45 =>
            intro w9 hT9
            clear hT9
            go_simp
          (try simp only [Act.put, List.setIfInBounds_toArray, List.set_cons_zero, List.set_cons_succ])
          refine wpE_takeT (i := 15) (d := some 71) (v := .bool false) rfl rfl (by kernel_rfl) (by kernel_rfl) (by kernel_rfl) rfl (fun _ _ _ h => h) (by rfl) ?hy46 hU2 ?go46
          case hy46 =>
            intro w9 hT9
            clear hT9
            go_simp
          (try simp only [Act.put, List.setIfInBounds_toArray, List.set_cons_zero, List.set_cons_succ])
          refine wpE_takeT (i := 16) (d := some 72) (v := .slice (some ⟨w.heap.size, 0, none⟩) 4 4) rfl rfl (by kernel_rfl) (by kernel_rfl) (by kernel_rfl) rfl (fun _ _ _ h => h) (by rfl) ?hy47 hU2 ?go47
          case hy47 =>
            intro w9 hT9
            clear hT9
            go_simp
          (try simp only [Act.put, List.setIfInBounds_toArray, List.set_cons_zero, List.set_cons_succ])
          refine wpE_takeT (i := 18) (d := some 74) (v := .agg #[.int .i64 fb.en, .string fb.kd, .int .i64 fb.day, .int .i64 fb.byy, .int .i64 fb.too, .int .i64 fb.am]) rfl rfl (by kernel_rfl) (by kernel_rfl) (by kernel_rfl) rfl (fun _ _ _ h => h) (by rfl) ?hy48 hU2 ?go48
          case hy48 =>
            intro w9 hT9
            obtain ⟨_, g0, g1, g2, g3, g4, g5⟩ := HB9.out.ext hT9
            clear hT9
            go_simp
          (try simp only [Act.put, List.setIfInBounds_toArray, List.set_cons_zero, List.set_cons_succ])
          refine wpE_takeT (i := 19) (d := some 75) (v := .agg #[.int .i64 fcc.en, .string fcc.kd, .int .i64 fcc.day, .int .i64 fcc.byy, .int .i64 fcc.too, .int .i64 fcc.am]) rfl rfl (by kernel_rfl) (by kernel_rfl) (by kernel_rfl) rfl (fun _ _ _ h => h) (by rfl) ?hy49 hU2 ?go49
          case hy49 =>
            intro w9 hT9
            obtain ⟨_, g0, g1, g2, g3, g4, g5⟩ := HC8.out.ext hT9
            clear hT9
            go_simp
          (try simp only [Act.put, List.setIfInBounds_toArray, List.set_cons_zero, List.set_cons_succ])
          refine wpE_all (rs := [17, 20]) (by kernel_rfl) (by simp) ?_
          refine AllE.cons rfl (fun K hK => ?_) ?_
          · simp only [List.getElem_toArray, List.getElem_cons_succ, List.getElem_cons_zero]
            go_simp; go_at_call 30
            refine (ex_at_any w6 _ _ 8 [fb, fcc] HSX.out hU2 ex_at8).mono ?_
            rintro e ua3 ⟨A3, q3, rfl, hs3, hx3⟩
            simp only []
            have hV3 := hU2.trans hx3
            refine hK.out _ _ ⟨fun _ => trivial, hV3⟩ (fun _ => ?_)
            clear hK K
            (try simp only [Act.put, List.setIfInBounds_toArray, List.set_cons_zero, List.set_cons_succ])
            refine wpE_all (rs := [20]) (by kernel_rfl) (by simp) ?_
            refine AllE.cons rfl (fun K hK => ?_) AllE.nil
            simp only [List.getElem_toArray, List.getElem_cons_succ, List.getElem_cons_zero]
            go_simp
            have hY3 := hV3.alloc (.cells #[.int .i64 fb.en, .string fb.kd, .int .i64 fb.day, .int .i64 fb.byy, .int .i64 fb.too, .int .i64 fb.am, .int .i64 fcc.en, .string fcc.kd, .int .i64 fcc.day, .int .i64 fcc.byy, .int .i64 fcc.too, .int .i64 fcc.am] 24)
            refine hK.out _ _ ⟨fun _ => trivial, hY3⟩ (fun _ => ?_)
            clear hK K
            (try simp only [Act.put, List.setIfInBounds_toArray, List.set_cons_zero, List.set_cons_succ])
            refine wpE_all (rs := [21]) (by kernel_rfl) (by simp) ?_
            refine AllE.cons rfl (fun K hK => ?_) AllE.nil
            simp only [List.getElem_toArray, List.getElem_cons_succ, List.getElem_cons_zero]
            go_simp; go_at_call 29
            refine (ex_same_any _ _ _ _ _ _ _ [fb, fcc] (hs3.lift (Nat.le_refl _) ((Ext.refl ua3).alloc (.cells #[.int .i64 fb.en, .string fb.kd, .int .i64 fb.day, .int .i64 fb.byy, .int .i64 fb.too, .int .i64 fb.am, .int .i64 fcc.en, .string fcc.kd, .int .i64 fcc.day, .int .i64 fcc.byy, .int .i64 fcc.too, .int .i64 fcc.am] 24))) ((SF.two ua3 fb fcc 24).more (by simp)) (by decide)).mono ?_
            rintro e ub3 ⟨rfl, hz3⟩
            simp only []
            have hU3 := hY3.trans hz3
            refine hK.out _ _ ⟨fun _ => trivial, hU3⟩ (fun _ => ?_)
            clear hK K
            (try simp only [Act.put, List.setIfInBounds_toArray, List.set_cons_zero, List.set_cons_succ])
            clear hz3 hs3 hx3
            refine wpE_takeT (i := 22) (d := some 78) (v := .bool false) rfl rfl (by kernel_rfl) (by kernel_rfl) (by kernel_rfl) rfl (fun _ _ _ h => h) (by rfl) ?hy50 hU3 ?go50
            case hy50 =>
              intro w9 hT9
              clear hT9
              go_simp
            (try simp only [Act.put, List.setIfInBounds_toArray, List.set_cons_zero, List.set_cons_succ])
            refine wpE_takeT (i := 23) (d := some 79) (v := .bool false) rfl rfl (by kernel_rfl) (by kernel_rfl) (by kernel_rfl) rfl (fun _ _ _ h => h) (by rfl) ?hy51 hU3 ?go51
            case hy51 =>
              intro w9 hT9
              clear hT9
              go_simp
            (try simp only [Act.put, List.setIfInBounds_toArray, List.set_cons_zero, List.set_cons_succ])
            refine wpE_takeT (i := 24) (d := some 80) (v := .bool false) rfl rfl (by kernel_rfl) (by kernel_rfl) (by kernel_rfl) rfl (fun _ _ _ h => h) (by rfl) ?hy52 hU3 ?go52
            case hy52 =>
              intro w9 hT9
              clear hT9
              go_simp
            (try simp only [Act.put, List.setIfInBounds_toArray, List.set_cons_zero, List.set_cons_succ])
            refine wpE_takeT (i := 25) (d := some 81) (v := .slice (some ⟨w.heap.size, 0, none⟩) 4 4) rfl rfl (by kernel_rfl) (by kernel_rfl) (by kernel_rfl) rfl (fun _ _ _ h => h) (by rfl) ?hy53 hU3 ?go53
            case hy53 =>
              intro w9 hT9
              clear hT9
              go_simp
            (try simp only [Act.put, List.setIfInBounds_toArray, List.set_cons_zero, List.set_cons_succ])
            refine wpE_takeT (i := 27) (d := some 83) (v := .agg #[.int .i64 fb.en, .string fb.kd, .int .i64 fb.day, .int .i64 fb.byy, .int .i64 fb.too, .int .i64 fb.am]) rfl rfl (by kernel_rfl) (by kernel_rfl) (by kernel_rfl) rfl (fun _ _ _ h => h) (by rfl) ?hy54 hU3 ?go54
            case hy54 =>
              intro w9 hT9
              obtain ⟨_, g0, g1, g2, g3, g4, g5⟩ := HB9.out.ext hT9
              clear hT9
              go_simp
            (try simp only [Act.put, List.setIfInBounds_toArray, List.set_cons_zero, List.set_cons_succ])
            refine wpE_all (rs := [26, 28]) (by kernel_rfl) (by simp) ?_
            refine AllE.cons rfl (fun K hK => ?_) ?_
            · simp only [List.getElem_toArray, List.getElem_cons_succ, List.getElem_cons_zero]
              go_simp; go_at_call 30
              refine (ex_at_any w6 _ _ 9 [fb] HSX.out hU3 ex_at9).mono ?_
              rintro e ua4 ⟨A4, q4, rfl, hs4, hx4⟩
              simp only []
              have hV4 := hU3.trans hx4
              refine hK.out _ _ ⟨fun _ => trivial, hV4⟩ (fun _ => ?_)
              clear hK K
              (try simp only [Act.put, List.setIfInBounds_toArray, List.set_cons_zero, List.set_cons_succ])
              refine wpE_all (rs := [28]) (by kernel_rfl) (by simp) ?_
              refine AllE.cons rfl (fun K hK => ?_) AllE.nil
              simp only [List.getElem_toArray, List.getElem_cons_succ, List.getElem_cons_zero]
              go_simp
              have hY4 := hV4.alloc (.cells #[.int .i64 fb.en, .string fb.kd, .int .i64 fb.day, .int .i64 fb.byy, .int .i64 fb.too, .int .i64 fb.am] 24)
              refine hK.out _ _ ⟨fun _ => trivial, hY4⟩ (fun _ => ?_)
              clear hK K
              (try simp only [Act.put, List.setIfInBounds_toArray, List.set_cons_zero, List.set_cons_succ])
              refine wpE_all (rs := [29]) (by kernel_rfl) (by simp) ?_
              refine AllE.cons rfl (fun K hK => ?_) AllE.nil
              simp only [List.getElem_toArray, List.getElem_cons_succ, List.getElem_cons_zero]
              go_simp; go_at_call 29
              refine (ex_same_any _ _ _ _ _ _ _ [fb] (hs4.lift (Nat.le_refl _) ((Ext.refl ua4).alloc (.cells #[.int .i64 fb.en, .string fb.kd, .int .i64 fb.day, .int .i64 fb.byy, .int .i64 fb.too, .int .i64 fb.am] 24))) ((SF.one ua4 fb 24).more (by simp)) (by decide)).mono ?_
              rintro e ub4 ⟨rfl, hz4⟩
              simp only []
              have hU4 := hY4.trans hz4
              refine hK.out _ _ ⟨fun _ => trivial, hU4⟩ (fun _ => ?_)
              clear hK K
              (try simp only [Act.put, List.setIfInBounds_toArray, List.set_cons_zero, List.set_cons_succ])
              clear hz4 hs4 hx4
              refine wpE_takeT (i := 30) (d := some 86) (v := .bool false) rfl rfl (by kernel_rfl) (by kernel_rfl) (by kernel_rfl) rfl (fun _ _ _ h => h) (by rfl) ?hy55 hU4 ?go55
              case hy55 =>
                intro w9 hT9
                clear hT9
                go_simp
              (try simp only [Act.put, List.setIfInBounds_toArray, List.set_cons_zero, List.set_cons_succ])
              refine wpE_takeT (i := 31) (d := some 87) (v := .bool false) rfl rfl (by kernel_rfl) (by kernel_rfl) (by kernel_rfl) rfl (fun _ _ _ h => h) (by rfl) ?hy56 hU4 ?go56
              case hy56 =>
                intro w9 hT9
                clear hT9
                go_simp
              (try simp only [Act.put, List.setIfInBounds_toArray, List.set_cons_zero, List.set_cons_succ])
              refine wpE_done (by kernel_rfl) ?_ _
              go_wp2_with fail
              go_meet
              case rel => exact ⟨rfl, hU4⟩
            refine AllE.cons rfl (fun K hK => ?_) ?_
            · simp only [List.getElem_toArray, List.getElem_cons_succ, List.getElem_cons_zero]
              go_simp
              have hY4 := hU3.alloc (.cells #[.int .i64 fb.en, .string fb.kd, .int .i64 fb.day, .int .i64 fb.byy, .int .i64 fb.too, .int .i64 fb.am] 24)
              refine hK.out _ _ ⟨fun _ => trivial, hY4⟩ (fun _ => ?_)
              clear hK K
              (try simp only [Act.put, List.setIfInBounds_toArray, List.set_cons_zero, List.set_cons_succ])
              refine wpE_all (rs := [26]) (by kernel_rfl) (by simp) ?_
              refine AllE.cons rfl (fun K hK => ?_) AllE.nil
              simp only [List.getElem_toArray, List.getElem_cons_succ, List.getElem_cons_zero]
              go_simp; go_at_call 30
              refine (ex_at_any w6 _ _ 9 [fb] HSX.out hY4 ex_at9).mono ?_
              rintro e ua4 ⟨A4, q4, rfl, hs4, hx4⟩
              simp only []
              have hV4 := hY4.trans hx4
              refine hK.out _ _ ⟨fun _ => trivial, hV4⟩ (fun _ => ?_)
              clear hK K
              (try simp only [Act.put, List.setIfInBounds_toArray, List.set_cons_zero, List.set_cons_succ])
              refine wpE_all (rs := [29]) (by kernel_rfl) (by simp) ?_
              refine AllE.cons rfl (fun K hK => ?_) AllE.nil
              simp only [List.getElem_toArray, List.getElem_cons_succ, List.getElem_cons_zero]
              go_simp; go_at_call 29
              refine (ex_same_any _ _ _ _ _ _ _ [fb] hs4 (((SF.one ub3 fb 24).more (by simp)).lift (Nat.le_refl _) hx4) (by decide)).mono ?_
              rintro e ub4 ⟨rfl, hz4⟩
              simp only []
              have hU4 := hV4.trans hz4
              refine hK.out _ _ ⟨fun _ => trivial, hU4⟩ (fun _ => ?_)
              clear hK K
              (try simp only [Act.put, List.setIfInBounds_toArray, List.set_cons_zero, List.set_cons_succ])
              clear hz4 hs4 hx4
              refine wpE_takeT (i := 30) (d := some 86) (v := .bool false) rfl rfl (by kernel_rfl) (by kernel_rfl) (by kernel_rfl) rfl (fun _ _ _ h => h) (by rfl) ?hy57 hU4 ?go57
              case hy57 =>
                intro w9 hT9
                clear hT9
                go_simp
              (try simp only [Act.put, List.setIfInBounds_toArray, List.set_cons_zero, List.set_cons_succ])
              refine wpE_takeT (i := 31) (d := some 87) (v := .bool false) rfl rfl (by kernel_rfl) (by kernel_rfl) (by kernel_rfl) rfl (fun _ _ _ h => h) (by rfl) ?hy58 hU4 ?go58
              case hy58 =>
                intro w9 hT9
                clear hT9
                go_simp
              (try simp only [Act.put, List.setIfInBounds_toArray, List.set_cons_zero, List.set_cons_succ])
              refine wpE_done (by kernel_rfl) ?_ _
              go_wp2_with fail
              go_meet
              case rel => exact ⟨rfl, hU4⟩
            exact AllE.nil
          refine AllE.cons rfl (fun K hK => ?_) ?_
          · simp only [List.getElem_toArray, List.getElem_cons_succ, List.getElem_cons_zero]
            go_simp
            have hY3 := hU2.alloc (.cells #[.int .i64 fb.en, .string fb.kd, .int .i64 fb.day, .int .i64 fb.byy, .int .i64 fb.too, .int .i64 fb.am, .int .i64 fcc.en, .string fcc.kd, .int .i64 fcc.day, .int .i64 fcc.byy, .int .i64 fcc.too, .int .i64 fcc.am] 24)
            refine hK.out _ _ ⟨fun _ => trivial, hY3⟩ (fun _ => ?_)
            clear hK K
            (try simp only [Act.put, List.setIfInBounds_toArray, List.set_cons_zero, List.set_cons_succ])
            refine wpE_all (rs := [17]) (by kernel_rfl) (by simp) ?_
            refine AllE.cons rfl (fun K hK => ?_) AllE.nil
            simp only [List.getElem_toArray, List.getElem_cons_succ, List.getElem_cons_zero]
            go_simp; go_at_call 30
            refine (ex_at_any w6 _ _ 8 [fb, fcc] HSX.out hY3 ex_at8).mono ?_
            rintro e ua3 ⟨A3, q3, rfl, hs3, hx3⟩
            simp only []
            have hV3 := hY3.trans hx3
            refine hK.out _ _ ⟨fun _ => trivial, hV3⟩ (fun _ => ?_)
            clear hK K
            (try simp only [Act.put, List.setIfInBounds_toArray, List.set_cons_zero, List.set_cons_succ])
            refine wpE_all (rs := [21]) (by kernel_rfl) (by simp) ?_
            refine AllE.cons rfl (fun K hK => ?_) AllE.nil
            simp only [List.getElem_toArray, List.getElem_cons_succ, List.getElem_cons_zero]
            go_simp; go_at_call 29
            refine (ex_same_any _ _ _ _ _ _ _ [fb, fcc] hs3 (((SF.two ub2 fb fcc 24).more (by simp)).lift (Nat.le_refl _) hx3) (by decide)).mono ?_
            rintro e ub3 ⟨rfl, hz3⟩
            simp only []
            have hU3 := hV3.trans hz3
            refine hK.out _ _ ⟨fun _ => trivial, hU3⟩ (fun _ => ?_)
            clear hK K
            (try simp only [Act.put, List.setIfInBounds_toArray, List.set_cons_zero, List.set_cons_succ])
            clear hz3 hs3 hx3
            refine wpE_takeT (i := 22) (d := some 78) (v := .bool false) rfl rfl (by kernel_rfl) (by kernel_rfl) (by kernel_rfl) rfl (fun _ _ _ h => h) (by rfl) ?hy59 hU3 ?go59
            case hy59 =>
              intro w9 hT9
              clear hT9
              go_simp
            (try simp only [Act.put, List.setIfInBounds_toArray, List.set_cons_zero, List.set_cons_succ])
            refine wpE_takeT (i := 23) (d := some 79) (v := .bool false) rfl rfl (by kernel_rfl) (by kernel_rfl) (by kernel_rfl) rfl (fun _ _ _ h => h) (by rfl) ?hy60 hU3 ?go60
            case hy60 =>
              intro w9 hT9
              clear hT9
              go_simp
            (try simp only [Act.put, List.setIfInBounds_toArray, List.set_cons_zero, List.set_cons_succ])
            refine wpE_takeT (i := 24) (d := some 80) (v := .bool false) rfl rfl (by kernel_rfl) (by kernel_rfl) (by kernel_rfl) rfl (fun _ _ _ h => h) (by rfl) ?hy61 hU3 ?go61
            case hy61 =>
              intro w9 hT9
              clear hT9
              go_simp
            (try simp only [Act.put, List.setIfInBounds_toArray, List.set_cons_zero, List.set_cons_succ])
            refine wpE_takeT (i := 25) (d := some 81) (v := .slice (some ⟨w.heap.size, 0, none⟩) 4 4) rfl rfl (by kernel_rfl) (by kernel_rfl) (by kernel_rfl) rfl (fun _ _ _ h => h) (by rfl) ?hy62 hU3 ?go62
            case hy62 =>
              intro w9 hT9
              clear hT9
              go_simp
            (try simp only [Act.put, List.setIfInBounds_toArray, List.set_cons_zero, List.set_cons_succ])
            refine wpE_takeT (i := 27) (d := some 83) (v := .agg #[.int .i64 fb.en, .string fb.kd, .int .i64 fb.day, .int .i64 fb.byy, .int .i64 fb.too, .int .i64 fb.am]) rfl rfl (by kernel_rfl) (by kernel_rfl) (by kernel_rfl) rfl (fun _ _ _ h => h) (by rfl) ?hy63 hU3 ?go63
            case hy63 =>
              intro w9 hT9
              obtain ⟨_, g0, g1, g2, g3, g4, g5⟩ := HB9.out.ext hT9
              clear hT9
              go_simp
            (try simp only [Act.put, List.setIfInBounds_toArray, List.set_cons_zero, List.set_cons_succ])
            refine wpE_all (rs := [26, 28]) (by kernel_rfl) (by simp) ?_
            refine AllE.cons rfl (fun K hK => ?_) ?_
            · simp only [List.getElem_toArray, List.getElem_cons_succ, List.getElem_cons_zero]
              go_simp; go_at_call 30
              refine (ex_at_any w6 _ _ 9 [fb] HSX.out hU3 ex_at9).mono ?_
              rintro e ua4 ⟨A4, q4, rfl, hs4, hx4⟩
              simp only []
              have hV4 := hU3.trans hx4
              refine hK.out _ _ ⟨fun _ => trivial, hV4⟩ (fun _ => ?_)
              clear hK K
              (try simp only [Act.put, List.setIfInBounds_toArray, List.set_cons_zero, List.set_cons_succ])
              refine wpE_all (rs := [28]) (by kernel_rfl) (by simp) ?_
              refine AllE.cons rfl (fun K hK => ?_) AllE.nil
              simp only [List.getElem_toArray, List.getElem_cons_succ, List.getElem_cons_zero]
              go_simp
              have hY4 := hV4.alloc (.cells #[.int .i64 fb.en, .string fb.kd, .int .i64 fb.day, .int .i64 fb.byy, .int .i64 fb.too, .int .i64 fb.am] 24)
              refine hK.out _ _ ⟨fun _ => trivial, hY4⟩ (fun _ => ?_)
              clear hK K
              (try simp only [Act.put, List.setIfInBounds_toArray, List.set_cons_zero, List.set_cons_succ])
              refine wpE_all (rs := [29]) (by kernel_rfl) (by simp) ?_
              refine AllE.cons rfl (fun K hK => ?_) AllE.nil
              simp only [List.getElem_toArray, List.getElem_cons_succ, List.getElem_cons_zero]
              go_simp; go_at_call 29
              refine (ex_same_any _ _ _ _ _ _ _ [fb] (hs4.lift (Nat.le_refl _) ((Ext.refl ua4).alloc (.cells #[.int .i64 fb.en, .string fb.kd, .int .i64 fb.day, .int .i64 fb.byy, .int .i64 fb.too, .int .i64 fb.am] 24))) ((SF.one ua4 fb 24).more (by simp)) (by decide)).mono ?_
              rintro e ub4 ⟨rfl, hz4⟩
              simp only []
              have hU4 := hY4.trans hz4
              refine hK.out _ _ ⟨fun _ => trivial, hU4⟩ (fun _ => ?_)
              clear hK K
              (try simp only [Act.put, List.setIfInBounds_toArray, List.set_cons_zero, List.set_cons_succ])
              clear hz4 hs4 hx4
              refine wpE_takeT (i := 30) (d := some 86) (v := .bool false) rfl rfl (by kernel_rfl) (by kernel_rfl) (by kernel_rfl) rfl (fun _ _ _ h => h) (by rfl) ?hy64 hU4 ?go64
              case hy64 =>
                intro w9 hT9
                clear hT9
                go_simp
              (try simp only [Act.put, List.setIfInBounds_toArray, List.set_cons_zero, List.set_cons_succ])
              refine wpE_takeT (i := 31) (d := some 87) (v := .bool false) rfl rfl (by kernel_rfl) (by kernel_rfl) (by kernel_rfl) rfl (fun _ _ _ h => h) (by rfl) ?hy65 hU4 ?go65
              case hy65 =>
                intro w9 hT9
                clear hT9
                go_simp
              (try simp only [Act.put, List.setIfInBounds_toArray, List.set_cons_zero, List.set_cons_succ])
              refine wpE_done (by kernel_rfl) ?_ _
              go_wp2_with fail
              go_meet
              case rel => exact ⟨rfl, hU4⟩
            refine AllE.cons rfl (fun K hK => ?_) ?_
            · simp only [List.getElem_toArray, List.getElem_cons_succ, List.getElem_cons_zero]
              go_simp
              have hY4 := hU3.alloc (.cells #[.int .i64 fb.en, .string fb.kd, .int .i64 fb.day, .int .i64 fb.byy, .int .i64 fb.too, .int .i64 fb.am] 24)
              refine hK.out _ _ ⟨fun _ => trivial, hY4⟩ (fun _ => ?_)
              clear hK K
              (try simp only [Act.put, List.setIfInBounds_toArray, List.set_cons_zero, List.set_cons_succ])
              refine wpE_all (rs := [26]) (by kernel_rfl) (by simp) ?_
              refine AllE.cons rfl (fun K hK => ?_) AllE.nil
              simp only [List.getElem_toArray, List.getElem_cons_succ, List.getElem_cons_zero]
              go_simp; go_at_call 30
              refine (ex_at_any w6 _ _ 9 [fb] HSX.out hY4 ex_at9).mono ?_
              rintro e ua4 ⟨A4, q4, rfl, hs4, hx4⟩
              simp only []
              have hV4 := hY4.trans hx4
              refine hK.out _ _ ⟨fun _ => trivial, hV4⟩ (fun _ => ?_)
              clear hK K
              (try simp only [Act.put, List.setIfInBounds_toArray, List.set_cons_zero, List.set_cons_succ])
              refine wpE_all (rs := [29]) (by kernel_rfl) (by simp) ?_
              refine AllE.cons rfl (fun K hK => ?_) AllE.nil
              simp only [List.getElem_toArray, List.getElem_cons_succ, List.getElem_cons_zero]
              go_simp; go_at_call 29
              refine (ex_same_any _ _ _ _ _ _ _ [fb] hs4 (((SF.one ub3 fb 24).more (by simp)).lift (Nat.le_refl _) hx4) (by decide)).mono ?_
              rintro e ub4 ⟨rfl, hz4⟩
              simp only []
              have hU4 := hV4.trans hz4
              refine hK.out _ _ ⟨fun _ => trivial, hU4⟩ (fun _ => ?_)
              clear hK K
              (try simp only [Act.put, List.setIfInBounds_toArray, List.set_cons_zero, List.set_cons_succ])
              clear hz4 hs4 hx4
              refine wpE_takeT (i := 30) (d := some 86) (v := .bool false) rfl rfl (by kernel_rfl) (by kernel_rfl) (by kernel_rfl) rfl (fun _ _ _ h => h) (by rfl) ?hy66 hU4 ?go66
              case hy66 =>
                intro w9 hT9
                clear hT9
                go_simp
              (try simp only [Act.put, List.setIfInBounds_toArray, List.set_cons_zero, List.set_cons_succ])
              refine wpE_takeT (i := 31) (d := some 87) (v := .bool false) rfl rfl (by kernel_rfl) (by kernel_rfl) (by kernel_rfl) rfl (fun _ _ _ h => h) (by rfl) ?hy67 hU4 ?go67
              case hy67 =>
                intro w9 hT9
                clear hT9
                go_simp
              (try simp only [Act.put, List.setIfInBounds_toArray, List.set_cons_zero, List.set_cons_succ])
              refine wpE_done (by kernel_rfl) ?_ _
              go_wp2_with fail
              go_meet
              case rel => exact ⟨rfl, hU4⟩
            exact AllE.nil
          exact AllE.nil
        exact AllE.nil
      refine AllE.cons rfl (fun K hK => ?_) ?_
      · simp only [List.getElem_toArray, List.getElem_cons_succ, List.getElem_cons_zero]
        go_simp
        have hY1 := hU0.alloc (.cells #[.int .i64 fa.en, .string fa.kd, .int .i64 fa.day, .int .i64 fa.byy, .int .i64 fa.too, .int .i64 fa.am] 24)
        refine hK.out _ _ ⟨fun _ => trivial, hY1⟩ (fun _ => ?_)
        clear hK K
        (try simp only [Act.put, List.setIfInBounds_toArray, List.set_cons_zero, List.set_cons_succ])
        refine wpE_all (rs := [1]) (by kernel_rfl) (by simp) ?_
        refine AllE.cons rfl (fun K hK => ?_) AllE.nil
        simp only [List.getElem_toArray, List.getElem_cons_succ, List.getElem_cons_zero]
        go_simp; go_at_call 30
        refine (ex_at_any w6 _ _ 2 [fa] HSX.out hY1 ex_at2).mono ?_
        rintro e ua1 ⟨A1, q1, rfl, hs1, hx1⟩
        simp only []
        have hV1 := hY1.trans hx1
        refine hK.out _ _ ⟨fun _ => trivial, hV1⟩ (fun _ => ?_)
        clear hK K
        (try simp only [Act.put, List.setIfInBounds_toArray, List.set_cons_zero, List.set_cons_succ])
        refine wpE_all (rs := [4]) (by kernel_rfl) (by simp) ?_
        refine AllE.cons rfl (fun K hK => ?_) AllE.nil
        simp only [List.getElem_toArray, List.getElem_cons_succ, List.getElem_cons_zero]
        go_simp; go_at_call 29
        refine (ex_same_any _ _ _ _ _ _ _ [fa] hs1 (((SF.one u0 fa 24).more (by simp)).lift (Nat.le_refl _) hx1) (by decide)).mono ?_
        rintro e ub1 ⟨rfl, hz1⟩
        simp only []
        have hU1 := hV1.trans hz1
        refine hK.out _ _ ⟨fun _ => trivial, hU1⟩ (fun _ => ?_)
        clear hK K
        (try simp only [Act.put, List.setIfInBounds_toArray, List.set_cons_zero, List.set_cons_succ])
        clear hz1 hs1 hx1
        refine wpE_takeT (i := 5) (d := some 61) (v := .bool false) rfl rfl (by kernel_rfl) (by kernel_rfl) (by kernel_rfl) rfl (fun _ _ _ h => h) (by rfl) ?hy68 hU1 ?go68
        case hy68 =>
          intro w9 hT9
          clear hT9
          go_simp
        (try simp only [Act.put, List.setIfInBounds_toArray, List.set_cons_zero, List.set_cons_succ])
        refine wpE_takeT (i := 6) (d := some 62) (v := .bool false) rfl rfl (by kernel_rfl) (by kernel_rfl) (by kernel_rfl) rfl (fun _ _ _ h => h) (by rfl) ?hy69 hU1 ?go69
        case hy69 =>
          intro w9 hT9
          clear hT9
          go_simp
        (try simp only [Act.put, List.setIfInBounds_toArray, List.set_cons_zero, List.set_cons_succ])
        refine wpE_takeT (i := 7) (d := some 63) (v := .slice (some ⟨w.heap.size, 0, none⟩) 4 4) rfl rfl (by kernel_rfl) (by kernel_rfl) (by kernel_rfl) rfl (fun _ _ _ h => h) (by rfl) ?hy70 hU1 ?go70
        case hy70 =>
          intro w9 hT9
          clear hT9
          go_simp
        (try simp only [Act.put, List.setIfInBounds_toArray, List.set_cons_zero, List.set_cons_succ])
        refine wpE_takeT (i := 9) (d := some 65) (v := .agg #[.int .i64 fb.en, .string fb.kd, .int .i64 fb.day, .int .i64 fb.byy, .int .i64 fb.too, .int .i64 fb.am]) rfl rfl (by kernel_rfl) (by kernel_rfl) (by kernel_rfl) rfl (fun _ _ _ h => h) (by rfl) ?hy71 hU1 ?go71
        case hy71 =>
          intro w9 hT9
          obtain ⟨_, g0, g1, g2, g3, g4, g5⟩ := HB9.out.ext hT9
          clear hT9
          go_simp
        (try simp only [Act.put, List.setIfInBounds_toArray, List.set_cons_zero, List.set_cons_succ])
        refine wpE_takeT (i := 10) (d := some 66) (v := .agg #[.int .i64 fa.en, .string fa.kd, .int .i64 fa.day, .int .i64 fa.byy, .int .i64 fa.too, .int .i64 fa.am]) rfl rfl (by kernel_rfl) (by kernel_rfl) (by kernel_rfl) rfl (fun _ _ _ h => h) (by rfl) ?hy72 hU1 ?go72
        case hy72 =>
          intro w9 hT9
          obtain ⟨_, g0, g1, g2, g3, g4, g5⟩ := HA8.out.ext hT9
          clear hT9
          go_simp
        (try simp only [Act.put, List.setIfInBounds_toArray, List.set_cons_zero, List.set_cons_succ])
        refine wpE_all (rs := [8, 11]) (by kernel_rfl) (by simp) ?_
        refine AllE.cons rfl (fun K hK => ?_) ?_
        · simp only [List.getElem_toArray, List.getElem_cons_succ, List.getElem_cons_zero]
          go_simp; go_at_call 30
          refine (ex_at_any w6 _ _ 6 [fb, fa] HSX.out hU1 ex_at6).mono ?_
          rintro e ua2 ⟨A2, q2, rfl, hs2, hx2⟩
          simp only []
          have hV2 := hU1.trans hx2
          refine hK.out _ _ ⟨fun _ => trivial, hV2⟩ (fun _ => ?_)
          clear hK K
          (try simp only [Act.put, List.setIfInBounds_toArray, List.set_cons_zero, List.set_cons_succ])
          refine wpE_all (rs := [11]) (by kernel_rfl) (by simp) ?_
          refine AllE.cons rfl (fun K hK => ?_) AllE.nil
          simp only [List.getElem_toArray, List.getElem_cons_succ, List.getElem_cons_zero]
          go_simp
          have hY2 := hV2.alloc (.cells #[.int .i64 fb.en, .string fb.kd, .int .i64 fb.day, .int .i64 fb.byy, .int .i64 fb.too, .int .i64 fb.am, .int .i64 fa.en, .string fa.kd, .int .i64 fa.day, .int .i64 fa.byy, .int .i64 fa.too, .int .i64 fa.am] 24)
          refine hK.out _ _ ⟨fun _ => trivial, hY2⟩ (fun _ => ?_)
          clear hK K
          (try simp only [Act.put, List.setIfInBounds_toArray, List.set_cons_zero, List.set_cons_succ])
          refine wpE_all (rs := [12]) (by kernel_rfl) (by simp) ?_
          refine AllE.cons rfl (fun K hK => ?_) AllE.nil
          simp only [List.getElem_toArray, List.getElem_cons_succ, List.getElem_cons_zero]
          go_simp; go_at_call 29
          refine (ex_same_any _ _ _ _ _ _ _ [fb, fa] (hs2.lift (Nat.le_refl _) ((Ext.refl ua2).alloc (.cells #[.int .i64 fb.en, .string fb.kd, .int .i64 fb.day, .int .i64 fb.byy, .int .i64 fb.too, .int .i64 fb.am, .int .i64 fa.en, .string fa.kd, .int .i64 fa.day, .int .i64 fa.byy, .int .i64 fa.too, .int .i64 fa.am] 24))) ((SF.two ua2 fb fa 24).more (by simp)) (by decide)).mono ?_
          rintro e ub2 ⟨rfl, hz2⟩
          simp only []
          have hU2 := hY2.trans hz2
          refine hK.out _ _ ⟨fun _ => trivial, hU2⟩ (fun _ => ?_)
          clear hK K
          (try simp only [Act.put, List.setIfInBounds_toArray, List.set_cons_zero, List.set_cons_succ])
          clear hz2 hs2 hx2
          refine wpE_takeT (i := 13) (d := some 69) (v := .bool false) rfl rfl (by kernel_rfl) (by kernel_rfl) (by kernel_rfl) rfl (fun _ _ _ h => h) (by rfl) ?hy73 hU2 ?go73
          case hy73 =>
            intro w9 hT9
            clear hT9
            go_simp
          (try simp only [Act.put, List.setIfInBounds_toArray, List.set_cons_zero, List.set_cons_succ])
          refine wpE_takeT (i := 14) (d := some 70) (v := .bool false) rfl rfl (by kernel_rfl) (by kernel_rfl) (by kernel_rfl) rfl (fun _ _ _ h => h) (by rfl) ?hy74 hU2 ?go74
          case hy74 =>
            intro w9 hT9
            clear hT9
            go_simp
          (try simp only [Act.put, List.setIfInBounds_toArray, List.set_cons_zero, List.set_cons_succ])
          refine wpE_takeT (i := 15) (d := some 71) (v := .bool false) rfl rfl (by kernel_rfl) (by kernel_rfl) (by kernel_rfl) rfl (fun _ _ _ h => h) (by rfl) ?hy75 hU2 ?go75
          case hy75 =>
            intro w9 hT9
            clear hT9
            go_simp
          (try simp only [Act.put, List.setIfInBounds_toArray, List.set_cons_zero, List.set_cons_succ])
          refine wpE_takeT (i := 16) (d := some 72) (v := .slice (some ⟨w.heap.size, 0, none⟩) 4 4) rfl rfl (by kernel_rfl) (by kernel_rfl) (by kernel_rfl) rfl (fun _ _ _ h => h) (by rfl) ?hy76 hU2 ?go76
          case hy76 =>
            intro w9 hT9
            clear hT9
            go_simp
          (try simp only [Act.put, List.setIfInBounds_toArray, List.set_cons_zero, List.set_cons_succ])
          refine wpE_takeT (i := 18) (d := some 74) (v := .agg #[.int .i64 fb.en, .string fb.kd, .int .i64 fb.day, .int .i64 fb.byy, .int .i64 fb.too, .int .i64 fb.am]) rfl rfl (by kernel_rfl) (by kernel_rfl) (by kernel_rfl) rfl (fun _ _ _ h => h) (by rfl) ?hy77 hU2 ?go77
          case hy77 =>
            intro w9 hT9
            obtain ⟨_, g0, g1, g2, g3, g4, g5⟩ := HB9.out.ext hT9
            clear hT9
            go_simp
          (try simp only [Act.put, List.setIfInBounds_toArray, List.set_cons_zero, List.set_cons_succ])
          refine wpE_takeT (i := 19) (d := some 75) (v := .agg #[.int .i64 fcc.en, .string fcc.kd, .int .i64 fcc.day, .int .i64 fcc.byy, .int .i64 fcc.too, .int .i64 fcc.am]) rfl rfl (by kernel_rfl) (by kernel_rfl) (by kernel_rfl) rfl (fun _ _ _ h => h) (by rfl) ?hy78 hU2 ?go78
          case hy78 =>
            intro w9 hT9
            obtain ⟨_, g0, g1, g2, g3, g4, g5⟩ := HC8.out.ext hT9
            clear hT9
            go_simp
          (try simp only [Act.put, List.setIfInBounds_toArray, List.set_cons_zero, List.set_cons_succ])
          refine wpE_all (rs := [17, 20]) (by kernel_rfl) (by simp) ?_
          refine AllE.cons rfl (fun K hK => ?_) ?_
          · simp only [List.getElem_toArray, List.getElem_cons_succ, List.getElem_cons_zero]
            go_simp; go_at_call 30
            refine (ex_at_any w6 _ _ 8 [fb, fcc] HSX.out hU2 ex_at8).mono ?_
            rintro e ua3 ⟨A3, q3, rfl, hs3, hx3⟩
            simp only []
            have hV3 := hU2.trans hx3
            refine hK.out _ _ ⟨fun _ => trivial, hV3⟩ (fun _ => ?_)
            clear hK K
            (try simp only [Act.put, List.setIfInBounds_toArray, List.set_cons_zero, List.set_cons_succ])
            refine wpE_all (rs := [20]) (by kernel_rfl) (by simp) ?_
            refine AllE.cons rfl (fun K hK => ?_) AllE.nil
            simp only [List.getElem_toArray, List.getElem_cons_succ, List.getElem_cons_zero]
            go_simp
            have hY3 := hV3.alloc (.cells #[.int .i64 fb.en, .string fb.kd, .int .i64 fb.day, .int .i64 fb.byy, .int .i64 fb.too, .int .i64 fb.am, .int .i64 fcc.en, .string fcc.kd, .int .i64 fcc.day, .int .i64 fcc.byy, .int .i64 fcc.too, .int .i64 fcc.am] 24)
            refine hK.out _ _ ⟨fun _ => trivial, hY3⟩ (fun _ => ?_)
            clear hK K
            (try simp only [Act.put, List.setIfInBounds_toArray, List.set_cons_zero, List.set_cons_succ])
            refine wpE_all (rs := [21]) (by kernel_rfl) (by simp) ?_
            refine AllE.cons rfl (fun K hK => ?_) AllE.nil
            simp only [List.getElem_toArray, List.getElem_cons_succ, List.getElem_cons_zero]
            go_simp; go_at_call 29
            refine (ex_same_any _ _ _ _ _ _ _ [fb, fcc] (hs3.lift (Nat.le_refl _) ((Ext.refl ua3).alloc (.cells #[.int .i64 fb.en, .string fb.kd, .int .i64 fb.day, .int .i64 fb.byy, .int .i64 fb.too, .int .i64 fb.am, .int .i64 fcc.en, .string fcc.kd, .int .i64 fcc.day, .int .i64 fcc.byy, .int .i64 fcc.too, .int .i64 fcc.am] 24))) ((SF.two ua3 fb fcc 24).more (by simp)) (by decide)).mono ?_
            rintro e ub3 ⟨rfl, hz3⟩
            simp only []
            have hU3 := hY3.trans hz3
            refine hK.out _ _ ⟨fun _ => trivial, hU3⟩ (fun _ => ?_)
            clear hK K
            (try simp only [Act.put, List.setIfInBounds_toArray, List.set_cons_zero, List.set_cons_succ])
            clear hz3 hs3 hx3
            refine wpE_takeT (i := 22) (d := some 78) (v := .bool false) rfl rfl (by kernel_rfl) (by kernel_rfl) (by kernel_rfl) rfl (fun _ _ _ h => h) (by rfl) ?hy79 hU3 ?go79
            case hy79 =>
              intro w9 hT9
              clear hT9
              go_simp
            (try simp only [Act.put, List.setIfInBounds_toArray, List.set_cons_zero, List.set_cons_succ])
            refine wpE_takeT (i := 23) (d := some 79) (v := .bool false) rfl rfl (by kernel_rfl) (by kernel_rfl) (by kernel_rfl) rfl (fun _ _ _ h => h) (by rfl) ?hy80 hU3 ?go80
            case hy80 =>
              intro w9 hT9
              clear hT9
              go_simp
            (try simp only [Act.put, List.setIfInBounds_toArray, List.set_cons_zero, List.set_cons_succ])
            refine wpE_takeT (i := 24) (d := some 80) (v := .bool false) rfl rfl (by kernel_rfl) (by kernel_rfl) (by kernel_rfl) rfl (fun _ _ _ h => h) (by rfl) ?hy81 hU3 ?go81
            case hy81 =>
              intro w9 hT9
              clear hT9
              go_simp
            (try simp only [Act.put, List.setIfInBounds_toArray, List.set_cons_zero, List.set_cons_succ])
            refine wpE_takeT (i := 25) (d := some 81) (v := .slice (some ⟨w.heap.size, 0, none⟩) 4 4) rfl rfl (by kernel_rfl) (by kernel_rfl) (by kernel_rfl) rfl (fun _ _ _ h => h) (by rfl) ?hy82 hU3 ?go82
            case hy82 =>
              intro w9 hT9
              clear hT9
              go_simp
            (try simp only [Act.put, List.setIfInBounds_toArray, List.set_cons_zero, List.set_cons_succ])
            refine wpE_takeT (i := 27) (d := some 83) (v := .agg #[.int .i64 fb.en, .string fb.kd, .int .i64 fb.day, .int .i64 fb.byy, .int .i64 fb.too, .int .i64 fb.am]) rfl rfl (by kernel_rfl) (by kernel_rfl) (by kernel_rfl) rfl (fun _ _ _ h => h) (by rfl) ?hy83 hU3 ?go83
            case hy83 =>
              intro w9 hT9
              obtain ⟨_, g0, g1, g2, g3, g4, g5⟩ := HB9.out.ext hT9
              clear hT9
              go_simp
            (try simp only [Act.put, List.setIfInBounds_toArray, List.set_cons_zero, List.set_cons_succ])
            refine wpE_all (rs := [26, 28]) (by kernel_rfl) (by simp) ?_
            refine AllE.cons rfl (fun K hK => ?_) ?_
            · simp only [List.getElem_toArray, List.getElem_cons_succ, List.getElem_cons_zero]
              go_simp; go_at_call 30
              refine (ex_at_any w6 _ _ 9 [fb] HSX.out hU3 ex_at9).mono ?_
              rintro e ua4 ⟨A4, q4, rfl, hs4, hx4⟩
              simp only []
              have hV4 := hU3.trans hx4
              refine hK.out _ _ ⟨fun _ => trivial, hV4⟩ (fun _ => ?_)
              clear hK K
              (try simp only [Act.put, List.setIfInBounds_toArray, List.set_cons_zero, List.set_cons_succ])
              refine wpE_all (rs := [28]) (by kernel_rfl) (by simp) ?_
              refine AllE.cons rfl (fun K hK => ?_) AllE.nil
              simp only [List.getElem_toArray, List.getElem_cons_succ, List.getElem_cons_zero]
              go_simp
              have hY4 := hV4.alloc (.cells #[.int .i64 fb.en, .string fb.kd, .int .i64 fb.day, .int .i64 fb.byy, .int .i64 fb.too, .int .i64 fb.am] 24)
              refine hK.out _ _ ⟨fun _ => trivial, hY4⟩ (fun _ => ?_)
              clear hK K
              (try simp only [Act.put, List.setIfInBounds_toArray, List.set_cons_zero, List.set_cons_succ])
              refine wpE_all (rs := [29]) (by kernel_rfl) (by simp) ?_
              refine AllE.cons rfl (fun K hK => ?_) AllE.nil
              simp only [List.getElem_toArray, List.getElem_cons_succ, List.getElem_cons_zero]
              go_simp; go_at_call 29
              refine (ex_same_any _ _ _ _ _ _ _ [fb] (hs4.lift (Nat.le_refl _) ((Ext.refl ua4).alloc (.cells #[.int .i64 fb.en, .string fb.kd, .int .i64 fb.day, .int .i64 fb.byy, .int .i64 fb.too, .int .i64 fb.am] 24))) ((SF.one ua4 fb 24).more (by simp)) (by decide)).mono ?_
              rintro e ub4 ⟨rfl, hz4⟩
              simp only []
              have hU4 := hY4.trans hz4
              refine hK.out _ _ ⟨fun _ => trivial, hU4⟩ (fun _ => ?_)
              clear hK K
              (try simp only [Act.put, List.setIfInBounds_toArray, List.set_cons_zero, List.set_cons_succ])
              clear hz4 hs4 hx4
              refine wpE_takeT (i := 30) (d := some 86) (v := .bool false) rfl rfl (by kernel_rfl) (by kernel_rfl) (by kernel_rfl) rfl (fun _ _ _ h => h) (by rfl) ?hy84 hU4 ?go84
              case hy84 =>
                intro w9 hT9
                clear hT9
                go_simp
              (try simp only [Act.put, List.setIfInBounds_toArray, List.set_cons_zero, List.set_cons_succ])
              refine wpE_takeT (i := 31) (d := some 87) (v := .bool false) rfl rfl (by kernel_rfl) (by kernel_rfl) (by kernel_rfl) rfl (fun _ _ _ h => h) (by rfl) ?hy85 hU4 ?go85
              case hy85 =>
                intro w9 hT9
                clear hT9
                go_simp
              (try simp only [Act.put, List.setIfInBounds_toArray, List.set_cons_zero, List.set_cons_succ])
              refine wpE_done (by kernel_rfl) ?_ _
              go_wp2_with fail
              go_meet
              case rel => exact ⟨rfl, hU4⟩
            refine AllE.cons rfl (fun K hK => ?_) ?_
            · simp only [List.getElem_toArray, List.getElem_cons_succ, List.getElem_cons_zero]
              go_simp
              have hY4 := hU3.alloc (.cells #[.int .i64 fb.en, .string fb.kd, .int .i64 fb.day, .int .i64 fb.byy, .int .i64 fb.too, .int .i64 fb.am] 24)
              refine hK.out _ _ ⟨fun _ => trivial, hY4⟩ (fun _ => ?_)
              clear hK K
              (try simp only [Act.put, List.setIfInBounds_toArray, List.set_cons_zero, List.set_cons_succ])
              refine wpE_all (rs := [26]) (by kernel_rfl) (by simp) ?_
              refine AllE.cons rfl (fun K hK => ?_) AllE.nil
              simp only [List.getElem_toArray, List.getElem_cons_succ, List.getElem_cons_zero]
              go_simp; go_at_call 30
              refine (ex_at_any w6 _ _ 9 [fb] HSX.out hY4 ex_at9).mono ?_
              rintro e ua4 ⟨A4, q4, rfl, hs4, hx4⟩
              simp only []
              have hV4 := hY4.trans hx4
              refine hK.out _ _ ⟨fun _ => trivial, hV4⟩ (fun _ => ?_)
              clear hK K
              (try simp only [Act.put, List.setIfInBounds_toArray, List.set_cons_zero, List.set_cons_succ])
              refine wpE_all (rs := [29]) (by kernel_rfl) (by simp) ?_
              refine AllE.cons rfl (fun K hK => ?_) AllE.nil
              simp only [List.getElem_toArray, List.getElem_cons_succ, List.getElem_cons_zero]
              go_simp; go_at_call 29
              refine (ex_same_any _ _ _ _ _ _ _ [fb] hs4 (((SF.one ub3 fb 24).more (by simp)).lift (Nat.le_refl _) hx4) (by decide)).mono ?_
              rintro e ub4 ⟨rfl, hz4⟩
              simp only []
              have hU4 := hV4.trans hz4
              refine hK.out _ _ ⟨fun _ => trivial, hU4⟩ (fun _ => ?_)
              clear hK K
              (try simp only [Act.put, List.setIfInBounds_toArray, List.set_cons_zero, List.set_cons_succ])
              clear hz4 hs4 hx4
              refine wpE_takeT (i := 30) (d := some 86) (v := .bool false) rfl rfl (by kernel_rfl) (by kernel_rfl) (by kernel_rfl) rfl (fun _ _ _ h => h) (by rfl) ?hy86 hU4 ?go86
              case hy86 =>
                intro w9 hT9
                clear hT9
                go_simp
              (try simp only [Act.put, List.setIfInBounds_toArray, List.set_cons_zero, List.set_cons_succ])
              refine wpE_takeT (i := 31) (d := some 87) (v := .bool false) rfl rfl (by kernel_rfl) (by kernel_rfl) (by kernel_rfl) rfl (fun _ _ _ h => h) (by rfl) ?hy87 hU4 ?go87
              case hy87 =>
                intro w9 hT9
                clear hT9
                go_simp
              (try simp only [Act.put, List.setIfInBounds_toArray, List.set_cons_zero, List.set_cons_succ])
              refine wpE_done (by kernel_rfl) ?_ _
              go_wp2_with fail
              go_meet
              case rel => exact ⟨rfl, hU4⟩
            exact AllE.nil
          refine AllE.cons rfl (fun K hK => ?_) ?_
          · simp only [List.getElem_toArray, List.getElem_cons_succ, List.getElem_cons_zero]
            go_simp
            have hY3 := hU2.alloc (.cells #[.int .i64 fb.en, .string fb.kd, .int .i64 fb.day, .int .i64 fb.byy, .int .i64 fb.too, .int .i64 fb.am, .int .i64 fcc.en, .string fcc.kd, .int .i64 fcc.day, .int .i64 fcc.byy, .int .i64 fcc.too, .int .i64 fcc.am] 24)
            refine hK.out _ _ ⟨fun _ => trivial, hY3⟩ (fun _ => ?_)
            clear hK K
            (try simp only [Act.put, List.setIfInBounds_toArray, List.set_cons_zero, List.set_cons_succ])
            refine wpE_all (rs := [17]) (by kernel_rfl) (by simp) ?_
            refine AllE.cons rfl (fun K hK => ?_) AllE.nil
            simp only [List.getElem_toArray, List.getElem_cons_succ, List.getElem_cons_zero]
            go_simp; go_at_call 30
            refine (ex_at_any w6 _ _ 8 [fb, fcc] HSX.out hY3 ex_at8).mono ?_
            rintro e ua3 ⟨A3, q3, rfl, hs3, hx3⟩
            simp only []
            have hV3 := hY3.trans hx3
            refine hK.out _ _ ⟨fun _ => trivial, hV3⟩ (fun _ => ?_)
            clear hK K
            (try simp only [Act.put, List.setIfInBounds_toArray, List.set_cons_zero, List.set_cons_succ])
            refine wpE_all (rs := [21]) (by kernel_rfl) (by simp) ?_
            refine AllE.cons rfl (fun K hK => ?_) AllE.nil
            simp only [List.getElem_toArray, List.getElem_cons_succ, List.getElem_cons_zero]
            go_simp; go_at_call 29
            refine (ex_same_any _ _ _ _ _ _ _ [fb, fcc] hs3 (((SF.two ub2 fb fcc 24).more (by simp)).lift (Nat.le_refl _) hx3) (by decide)).mono ?_
            rintro e ub3 ⟨rfl, hz3⟩
            simp only []
            have hU3 := hV3.trans hz3
            refine hK.out _ _ ⟨fun _ => trivial, hU3⟩ (fun _ => ?_)
            clear hK K
            (try simp only [Act.put, List.setIfInBounds_toArray, List.set_cons_zero, List.set_cons_succ])
            clear hz3 hs3 hx3
            refine wpE_takeT (i := 22) (d := some 78) (v := .bool false) rfl rfl (by kernel_rfl) (by kernel_rfl) (by kernel_rfl) rfl (fun _ _ _ h => h) (by rfl) ?hy88 hU3 ?go88
            case hy88 =>
              intro w9 hT9
              clear hT9
              go_simp
            (try simp only [Act.put, List.setIfInBounds_toArray, List.set_cons_zero, List.set_cons_succ])
            refine wpE_takeT (i := 23) (d := some 79) (v := .bool false) rfl rfl (by kernel_rfl) (by kernel_rfl) (by kernel_rfl) rfl (fun _ _ _ h => h) (by rfl) ?hy89 hU3 ?go89
            case hy89 =>
              intro w9 hT9
              clear hT9
              go_simp
            (try simp only [Act.put, List.setIfInBounds_toArray, List.set_cons_zero, List.set_cons_succ])
            refine wpE_takeT (i := 24) (d := some 80) (v := .bool false) rfl rfl (by kernel_rfl) (by kernel_rfl) (by kernel_rfl) rfl (fun _ _ _ h => h) (by rfl) ?hy90 hU3 ?go90
            case hy90 =>
              intro w9 hT9
              clear hT9
              go_simp
            (try simp only [Act.put, List.setIfInBounds_toArray, List.set_cons_zero, List.set_cons_succ])
            refine wpE_takeT (i := 25) (d := some 81) (v := .slice (some ⟨w.heap.size, 0, none⟩) 4 4) rfl rfl (by kernel_rfl) (by kernel_rfl) (by kernel_rfl) rfl (fun _ _ _ h => h) (by rfl) ?hy91 hU3 ?go91
            case hy91 =>
              intro w9 hT9
              clear hT9
              go_simp
            (try simp only [Act.put, List.setIfInBounds_toArray, List.set_cons_zero, List.set_cons_succ])
            refine wpE_takeT (i := 27) (d := some 83) (v := .agg #[.int .i64 fb.en, .string fb.kd, .int .i64 fb.day, .int .i64 fb.byy, .int .i64 fb.too, .int .i64 fb.am]) rfl rfl (by kernel_rfl) (by kernel_rfl) (by kernel_rfl) rfl (fun _ _ _ h => h) (by rfl) ?hy92 hU3 ?go92
            case hy92 =>
              intro w9 hT9
              obtain ⟨_, g0, g1, g2, g3, g4, g5⟩ := HB9.out.ext hT9
              clear hT9
              go_simp
            (try simp only [Act.put, List.setIfInBounds_toArray, List.set_cons_zero, List.set_cons_succ])
            refine wpE_all (rs := [26, 28]) (by kernel_rfl) (by simp) ?_
            refine AllE.cons rfl (fun K hK => ?_) ?_
            · simp only [List.getElem_toArray, List.getElem_cons_succ, List.getElem_cons_zero]
              go_simp; go_at_call 30
              refine (ex_at_any w6 _ _ 9 [fb] HSX.out hU3 ex_at9).mono ?_
              rintro e ua4 ⟨A4, q4, rfl, hs4, hx4⟩
              simp only []
              have hV4 := hU3.trans hx4
              refine hK.out _ _ ⟨fun _ => trivial, hV4⟩ (fun _ => ?_)
              clear hK K
              (try simp only [Act.put, List.setIfInBounds_toArray, List.set_cons_zero, List.set_cons_succ])
              refine wpE_all (rs := [28]) (by kernel_rfl) (by simp) ?_
              refine AllE.cons rfl (fun K hK => ?_) AllE.nil
              simp only [List.getElem_toArray, List.getElem_cons_succ, List.getElem_cons_zero]
              go_simp
              have hY4 := hV4.alloc (.cells #[.int .i64 fb.en, .string fb.kd, .int .i64 fb.day, .int .i64 fb.byy, .int .i64 fb.too, .int .i64 fb.am] 24)
              refine hK.out _ _ ⟨fun _ => trivial, hY4⟩ (fun _ => ?_)
              clear hK K
              (try simp only [Act.put, List.setIfInBounds_toArray, List.set_cons_zero, List.set_cons_succ])
              refine wpE_all (rs := [29]) (by kernel_rfl) (by simp) ?_
              refine AllE.cons rfl (fun K hK => ?_) AllE.nil
              simp only [List.getElem_toArray, List.getElem_cons_succ, List.getElem_cons_zero]
              go_simp; go_at_call 29
              refine (ex_same_any _ _ _ _ _ _ _ [fb] (hs4.lift (Nat.le_refl _) ((Ext.refl ua4).alloc (.cells #[.int .i64 fb.en, .string fb.kd, .int .i64 fb.day, .int .i64 fb.byy, .int .i64 fb.too, .int .i64 fb.am] 24))) ((SF.one ua4 fb 24).more (by simp)) (by decide)).mono ?_
              rintro e ub4 ⟨rfl, hz4⟩
              simp only []
              have hU4 := hY4.trans hz4
              refine hK.out _ _ ⟨fun _ => trivial, hU4⟩ (fun _ => ?_)
              clear hK K
              (try simp only [Act.put, List.setIfInBounds_toArray, List.set_cons_zero, List.set_cons_succ])
              clear hz4 hs4 hx4
              refine wpE_takeT (i := 30) (d := some 86) (v := .bool false) rfl rfl (by kernel_rfl) (by kernel_rfl) (by kernel_rfl) rfl (fun _ _ _ h => h) (by rfl) ?hy93 hU4 ?go93
              case hy93 =>
                intro w9 hT9
                clear hT9
                go_simp
              (try simp only [Act.put, List.setIfInBounds_toArray, List.set_cons_zero, List.set_cons_succ])
              refine wpE_takeT (i := 31) (d := some 87) (v := .bool false) rfl rfl (by kernel_rfl) (by kernel_rfl) (by kernel_rfl) rfl (fun _ _ _ h => h) (by rfl) ?hy94 hU4 ?go94
              case hy94 =>
                intro w9 hT9
                clear hT9
                go_simp
              (try simp only [Act.put, List.setIfInBounds_toArray, List.set_cons_zero, List.set_cons_succ])
              refine wpE_done (by kernel_rfl) ?_ _
              go_wp2_with fail
              go_meet
              case rel => exact ⟨rfl, hU4⟩
            refine AllE.cons rfl (fun K hK => ?_) ?_
            · simp only [List.getElem_toArray, List.getElem_cons_succ, List.getElem_cons_zero]
              go_simp
              have hY4 := hU3.alloc (.cells #[.int .i64 fb.en, .string fb.kd, .int .i64 fb.day, .int .i64 fb.byy, .int .i64 fb.too, .int .i64 fb.am] 24)
              refine hK.out _ _ ⟨fun _ => trivial, hY4⟩ (fun _ => ?_)
              clear hK K
              (try simp only [Act.put, List.setIfInBounds_toArray, List.set_cons_zero, List.set_cons_succ])
              refine wpE_all (rs := [26]) (by kernel_rfl) (by simp) ?_
              refine AllE.cons rfl (fun K hK => ?_) AllE.nil
              simp only [List.getElem_toArray, List.getElem_cons_succ, List.getElem_cons_zero]
              go_simp; go_at_call 30
              refine (ex_at_any w6 _ _ 9 [fb] HSX.out hY4 ex_at9).mono ?_
              rintro e ua4 ⟨A4, q4, rfl, hs4, hx4⟩
              simp only []
              have hV4 := hY4.trans hx4
              refine hK.out _ _ ⟨fun _ => trivial, hV4⟩ (fun _ => ?_)
              clear hK K
              (try simp only [Act.put, List.setIfInBounds_toArray, List.set_cons_zero, List.set_cons_succ])
              refine wpE_all (rs := [29]) (by kernel_rfl) (by simp) ?_
              refine AllE.cons rfl (fun K hK => ?_) AllE.nil
              simp only [List.getElem_toArray, List.getElem_cons_succ, List.getElem_cons_zero]
              go_simp; go_at_call 29
              refine (ex_same_any _ _ _ _ _ _ _ [fb] hs4 (((SF.one ub3 fb 24).more (by simp)).lift (Nat.le_refl _) hx4) (by decide)).mono ?_
              rintro e ub4 ⟨rfl, hz4⟩
              simp only []
              have hU4 := hV4.trans hz4
              refine hK.out _ _ ⟨fun _ => trivial, hU4⟩ (fun _ => ?_)
              clear hK K
              (try simp only [Act.put, List.setIfInBounds_toArray, List.set_cons_zero, List.set_cons_succ])
              clear hz4 hs4 hx4
              refine wpE_takeT (i := 30) (d := some 86) (v := .bool false) rfl rfl (by kernel_rfl) (by kernel_rfl) (by kernel_rfl) rfl (fun _ _ _ h => h) (by rfl) ?hy95 hU4 ?go95
              case hy95 =>
                intro w9 hT9
                clear hT9
                go_simp
              (try simp only [Act.put, List.setIfInBounds_toArray, List.set_cons_zero, List.set_cons_succ])
              refine wpE_takeT (i := 31) (d := some 87) (v := .bool false) rfl rfl (by kernel_rfl) (by kernel_rfl) (by kernel_rfl) rfl (fun _ _ _ h => h) (by rfl) ?hy96 hU4 ?go96
              case hy96 =>
                intro w9 hT9
                clear hT9
                go_simp
              (try simp only [Act.put, List.setIfInBounds_toArray, List.set_cons_zero, List.set_cons_succ])
              refine wpE_done (by kernel_rfl) ?_ _
              go_wp2_with fail
              go_meet
              case rel => exact ⟨rfl, hU4⟩
            exact AllE.nil
          exact AllE.nil
        refine AllE.cons rfl (fun K hK => ?_) ?_
        · simp only [List.getElem_toArray, List.getElem_cons_succ, List.getElem_cons_zero]
          go_simp
          have hY2 := hU1.alloc (.cells #[.int .i64 fb.en, .string fb.kd, .int .i64 fb.day, .int .i64 fb.byy, .int .i64 fb.too, .int .i64 fb.am, .int .i64 fa.en, .string fa.kd, .int .i64 fa.day, .int .i64 fa.byy, .int .i64 fa.too, .int .i64 fa.am] 24)
          refine hK.out _ _ ⟨fun _ => trivial, hY2⟩ (fun _ => ?_)
          clear hK K
          (try simp only [Act.put, List.setIfInBounds_toArray, List.set_cons_zero, List.set_cons_succ])
          refine wpE_all (rs := [8]) (by kernel_rfl) (by simp) ?_
          refine AllE.cons rfl (fun K hK => ?_) AllE.nil
          simp only [List.getElem_toArray, List.getElem_cons_succ, List.getElem_cons_zero]
          go_simp; go_at_call 30
          refine (ex_at_any w6 _ _ 6 [fb, fa] HSX.out hY2 ex_at6).mono ?_
          rintro e ua2 ⟨A2, q2, rfl, hs2, hx2⟩
          simp only []
          have hV2 := hY2.trans hx2
          refine hK.out _ _ ⟨fun _ => trivial, hV2⟩ (fun _ => ?_)
          clear hK K
          (try simp only [Act.put, List.setIfInBounds_toArray, List.set_cons_zero, List.set_cons_succ])
          refine wpE_all (rs := [12]) (by kernel_rfl) (by simp) ?_
          refine AllE.cons rfl (fun K hK => ?_) AllE.nil
          simp only [List.getElem_toArray, List.getElem_cons_succ, List.getElem_cons_zero]
          go_simp; go_at_call 29
          refine (ex_same_any _ _ _ _ _ _ _ [fb, fa] hs2 (((SF.two ub1 fb fa 24).more (by simp)).lift (Nat.le_refl _) hx2) (by decide)).mono ?_
          rintro e ub2 ⟨rfl, hz2⟩
          simp only []
          have hU2 := hV2.trans hz2
          refine hK.out _ _ ⟨fun _ => trivial, hU2⟩ (fun _ => ?_)
          clear hK K
          (try simp only [Act.put, List.setIfInBounds_toArray, List.set_cons_zero, List.set_cons_succ])
          clear hz2 hs2 hx2
          refine wpE_takeT (i := 13) (d := some 69) (v := .bool false) rfl rfl (by kernel_rfl) (by kernel_rfl) (by kernel_rfl) rfl (fun _ _ _ h => h) (by rfl) ?hy97 hU2 ?go97
          case hy97 =>
            intro w9 hT9
            clear hT9
            go_simp
          (try simp only [Act.put, List.setIfInBounds_toArray, List.set_cons_zero, List.set_cons_succ])
          refine wpE_takeT (i := 14) (d := some 70) (v := .bool false) rfl rfl (by kernel_rfl) (by kernel_rfl) (by kernel_rfl) rfl (fun _ _ _ h => h) (by rfl) ?hy98 hU2 ?go98
          case hy98 =>
            intro w9 hT9
            clear hT9
            go_simp
          (try simp only [Act.put, List.setIfInBounds_toArray, List.set_cons_zero, List.set_cons_succ])
          refine wpE_takeT (i := 15) (d := some 71) (v := .bool false) rfl rfl (by kernel_rfl) (by kernel_rfl) (by kernel_rfl) rfl (fun _ _ _ h => h) (by rfl) ?hy99 hU2 ?go99
          case hy99 =>
            intro w9 hT9
            clear hT9
            go_simp
          (try simp only [Act.put, List.setIfInBounds_toArray, List.set_cons_zero, List.set_cons_succ])
          refine wpE_takeT (i := 16) (d := some 72) (v := .slice (some ⟨w.heap.size, 0, none⟩) 4 4) rfl rfl (by kernel_rfl) (by kernel_rfl) (by kernel_rfl) rfl (fun _ _ _ h => h) (by rfl) ?hy100 hU2 ?go100
          case hy100 =>
            intro w9 hT9
            clear hT9
            go_simp
          (try simp only [Act.put, List.setIfInBounds_toArray, List.set_cons_zero, List.set_cons_succ])
          refine wpE_takeT (i := 18) (d := some 74) (v := .agg #[.int .i64 fb.en, .string fb.kd, .int .i64 fb.day, .int .i64 fb.byy, .int .i64 fb.too, .int .i64 fb.am]) rfl rfl (by kernel_rfl) (by kernel_rfl) (by kernel_rfl) rfl (fun _ _ _ h => h) (by rfl) ?hy101 hU2 ?go101
          case hy101 =>
            intro w9 hT9
            obtain ⟨_, g0, g1, g2, g3, g4, g5⟩ := HB9.out.ext hT9
            clear hT9
            go_simp
          (try simp only [Act.put, List.setIfInBounds_toArray, List.set_cons_zero, List.set_cons_succ])
          refine wpE_takeT (i := 19) (d := some 75) (v := .agg #[.int .i64 fcc.en, .string fcc.kd, .int .i64 fcc.day, .int .i64 fcc.byy, .int .i64 fcc.too, .int .i64 fcc.am]) rfl rfl (by kernel_rfl) (by kernel_rfl) (by kernel_rfl) rfl (fun _ _ _ h => h) (by rfl) ?hy102 hU2 ?go102
          case hy102 =>
            intro w9 hT9
            obtain ⟨_, g0, g1, g2, g3, g4, g5⟩ := HC8.out.ext hT9
            clear hT9
            go_simp
          (try simp only [Act.put, List.setIfInBounds_toArray, List.set_cons_zero, List.set_cons_succ])
          refine wpE_all (rs := [17, 20]) (by kernel_rfl) (by simp) ?_
          refine AllE.cons rfl (fun K hK => ?_) ?_
          · simp only [List.getElem_toArray, List.getElem_cons_succ, List.getElem_cons_zero]
            go_simp; go_at_call 30
            refine (ex_at_any w6 _ _ 8 [fb, fcc] HSX.out hU2 ex_at8).mono ?_
            rintro e ua3 ⟨A3, q3, rfl, hs3, hx3⟩
            simp only []
            have hV3 := hU2.trans hx3
            refine hK.out _ _ ⟨fun _ => trivial, hV3⟩ (fun _ => ?_)
            clear hK K
            (try simp only [Act.put, List.setIfInBounds_toArray, List.set_cons_zero, List.set_cons_succ])
            refine wpE_all (rs := [20]) (by kernel_rfl) (by simp) ?_
            refine AllE.cons rfl (fun K hK => ?_) AllE.nil
            simp only [List.getElem_toArray, List.getElem_cons_succ, List.getElem_cons_zero]
            go_simp
            have hY3 := hV3.alloc (.cells #[.int .i64 fb.en, .string fb.kd, .int .i64 fb.day, .int .i64 fb.byy, .int .i64 fb.too, .int .i64 fb.am, .int .i64 fcc.en, .string fcc.kd, .int .i64 fcc.day, .int .i64 fcc.byy, .int .i64 fcc.too, .int .i64 fcc.am] 24)
            refine hK.out _ _ ⟨fun _ => trivial, hY3⟩ (fun _ => ?_)
            clear hK K
            (try simp only [Act.put, List.setIfInBounds_toArray, List.set_cons_zero, List.set_cons_succ])
            refine wpE_all (rs := [21]) (by kernel_rfl) (by simp) ?_
            refine AllE.cons rfl (fun K hK => ?_) AllE.nil
            simp only [List.getElem_toArray, List.getElem_cons_succ, List.getElem_cons_zero]
            go_simp; go_at_call 29
            refine (ex_same_any _ _ _ _ _ _ _ [fb, fcc] (hs3.lift (Nat.le_refl _) ((Ext.refl ua3).alloc (.cells #[.int .i64 fb.en, .string fb.kd, .int .i64 fb.day, .int .i64 fb.byy, .int .i64 fb.too, .int .i64 fb.am, .int .i64 fcc.en, .string fcc.kd, .int .i64 fcc.day, .int .i64 fcc.byy, .int .i64 fcc.too, .int .i64 fcc.am] 24))) ((SF.two ua3 fb fcc 24).more (by simp)) (by decide)).mono ?_
            rintro e ub3 ⟨rfl, hz3⟩
            simp only []
            have hU3 := hY3.trans hz3
            refine hK.out _ _ ⟨fun _ => trivial, hU3⟩ (fun _ => ?_)
            clear hK K
            (try simp only [Act.put, List.setIfInBounds_toArray, List.set_cons_zero, List.set_cons_succ])
            clear hz3 hs3 hx3
            refine wpE_takeT (i := 22) (d := some 78) (v := .bool false) rfl rfl (by kernel_rfl) (by kernel_rfl) (by kernel_rfl) rfl (fun _ _ _ h => h) (by rfl) ?hy103 hU3 ?go103
            case hy103 =>
              intro w9 hT9
              clear hT9
              go_simp
            (try simp only [Act.put, List.setIfInBounds_toArray, List.set_cons_zero, List.set_cons_succ])
            refine wpE_takeT (i := 23) (d := some 79) (v := .bool false) rfl rfl (by kernel_rfl) (by kernel_rfl) (by kernel_rfl) rfl (fun _ _ _ h => h) (by rfl) ?hy104 hU3 ?go104
            case hy104 =>
              intro w9 hT9
              clear hT9
              go_simp
            (try simp only [Act.put, List.setIfInBounds_toArray, List.set_cons_zero, List.set_cons_succ])
            refine wpE_takeT (i := 24) (d := some 80) (v := .bool false) rfl rfl (by kernel_rfl) (by kernel_rfl) (by kernel_rfl) rfl (fun _ _ _ h => h) (by rfl) ?hy105 hU3 ?go105
            case hy105 =>
              intro w9 hT9
              clear hT9
              go_simp
            (try simp only [Act.put, List.setIfInBounds_toArray, List.set_cons_zero, List.set_cons_succ])
            refine wpE_takeT (i := 25) (d := some 81) (v := .slice (some ⟨w.heap.size, 0, none⟩) 4 4) rfl rfl (by kernel_rfl) (by kernel_rfl) (by kernel_rfl) rfl (fun _ _ _ h => h) (by rfl) ?hy106 hU3 ?go106
            case hy106 =>
              intro w9 hT9
              clear hT9
              go_simp
            (try simp only [Act.put, List.setIfInBounds_toArray, List.set_cons_zero, List.set_cons_succ])
            refine wpE_takeT (i := 27) (d := some 83) (v := .agg #[.int .i64 fb.en, .string fb.kd, .int .i64 fb.day, .int .i64 fb.byy, .int .i64 fb.too, .int .i64 fb.am]) rfl rfl (by kernel_rfl) (by kernel_rfl) (by kernel_rfl) rfl (fun _ _ _ h => h) (by rfl) ?hy107 hU3 ?go107
            case hy107 =>
              intro w9 hT9
              obtain ⟨_, g0, g1, g2, g3, g4, g5⟩ := HB9.out.ext hT9
              clear hT9
              go_simp
            (try simp only [Act.put, List.setIfInBounds_toArray, List.set_cons_zero, List.set_cons_succ])
            refine wpE_all (rs := [26, 28]) (by kernel_rfl) (by simp) ?_
            refine AllE.cons rfl (fun K hK => ?_) ?_
            · simp only [List.getElem_toArray, List.getElem_cons_succ, List.getElem_cons_zero]
              go_simp; go_at_call 30
              refine (ex_at_any w6 _ _ 9 [fb] HSX.out hU3 ex_at9).mono ?_
              rintro e ua4 ⟨A4, q4, rfl, hs4, hx4⟩
              simp only []
              have hV4 := hU3.trans hx4
              refine hK.out _ _ ⟨fun _ => trivial, hV4⟩ (fun _ => ?_)
              clear hK K
              (try simp only [Act.put, List.setIfInBounds_toArray, List.set_cons_zero, List.set_cons_succ])
              refine wpE_all (rs := [28]) (by kernel_rfl) (by simp) ?_
              refine AllE.cons rfl (fun K hK => ?_) AllE.nil
              simp only [List.getElem_toArray, List.getElem_cons_succ, List.getElem_cons_zero]
              go_simp
              have hY4 := hV4.alloc (.cells #[.int .i64 fb.en, .string fb.kd, .int .i64 fb.day, .int .i64 fb.byy, .int .i64 fb.too, .int .i64 fb.am] 24)
              refine hK.out _ _ ⟨fun _ => trivial, hY4⟩ (fun _ => ?_)
              clear hK K
              (try simp only [Act.put, List.setIfInBounds_toArray, List.set_cons_zero, List.set_cons_succ])
              refine wpE_all (rs := [29]) (by kernel_rfl) (by simp) ?_
              refine AllE.cons rfl (fun K hK => ?_) AllE.nil
              simp only [List.getElem_toArray, List.getElem_cons_succ, List.getElem_cons_zero]
              go_simp; go_at_call 29
              refine (ex_same_any _ _ _ _ _ _ _ [fb] (hs4.lift (Nat.le_refl _) ((Ext.refl ua4).alloc (.cells #[.int .i64 fb.en, .string fb.kd, .int .i64 fb.day, .int .i64 fb.byy, .int .i64 fb.too, .int .i64 fb.am] 24))) ((SF.one ua4 fb 24).more (by simp)) (by decide)).mono ?_
              rintro e ub4 ⟨rfl, hz4⟩
              simp only []
              have hU4 := hY4.trans hz4
              refine hK.out _ _ ⟨fun _ => trivial, hU4⟩ (fun _ => ?_)
              clear hK K
              (try simp only [Act.put, List.setIfInBounds_toArray, List.set_cons_zero, List.set_cons_succ])
              clear hz4 hs4 hx4
              refine wpE_takeT (i := 30) (d := some 86) (v := .bool false) rfl rfl (by kernel_rfl) (by kernel_rfl) (by kernel_rfl) rfl (fun _ _ _ h => h) (by rfl) ?hy108 hU4 ?go108
              case hy108 =>
                intro w9 hT9
                clear hT9
                go_simp
              (try simp only [Act.put, List.setIfInBounds_toArray, List.set_cons_zero, List.set_cons_succ])
              refine wpE_takeT (i := 31) (d := some 87) (v := .bool false) rfl rfl (by kernel_rfl) (by kernel_rfl) (by kernel_rfl) rfl (fun _ _ _ h => h) (by rfl) ?hy109 hU4 ?go109
              case hy109 =>
                intro w9 hT9
                clear hT9
                go_simp
              (try simp only [Act.put, List.setIfInBounds_toArray, List.set_cons_zero, List.set_cons_succ])
              refine wpE_done (by kernel_rfl) ?_ _
              go_wp2_with fail
              go_meet
              case rel => exact ⟨rfl, hU4⟩
            refine AllE.cons rfl (fun K hK => ?_) ?_
            · simp only [List.getElem_toArray, List.getElem_cons_succ, List.getElem_cons_zero]
              go_simp
              have hY4 := hU3.alloc (.cells #[.int .i64 fb.en, .string fb.kd, .int .i64 fb.day, .int .i64 fb.byy, .int .i64 fb.too, .int .i64 fb.am] 24)
              refine hK.out _ _ ⟨fun _ => trivial, hY4⟩ (fun _ => ?_)
              clear hK K
              (try simp only [Act.put, List.setIfInBounds_toArray, List.set_cons_zero, List.set_cons_succ])
              refine wpE_all (rs := [26]) (by kernel_rfl) (by simp) ?_
              refine AllE.cons rfl (fun K hK => ?_) AllE.nil
              simp only [List.getElem_toArray, List.getElem_cons_succ, List.getElem_cons_zero]
              go_simp; go_at_call 30
              refine (ex_at_any w6 _ _ 9 [fb] HSX.out hY4 ex_at9).mono ?_
              rintro e ua4 ⟨A4, q4, rfl, hs4, hx4⟩
              simp only []
              have hV4 := hY4.trans hx4
              refine hK.out _ _ ⟨fun _ => trivial, hV4⟩ (fun _ => ?_)
              clear hK K
              (try simp only [Act.put, List.setIfInBounds_toArray, List.set_cons_zero, List.set_cons_succ])
              refine wpE_all (rs := [29]) (by kernel_rfl) (by simp) ?_
              refine AllE.cons rfl (fun K hK => ?_) AllE.nil
              simp only [List.getElem_toArray, List.getElem_cons_succ, List.getElem_cons_zero]
              go_simp; go_at_call 29
              refine (ex_same_any _ _ _ _ _ _ _ [fb] hs4 (((SF.one ub3 fb 24).more (by simp)).lift (Nat.le_refl _) hx4) (by decide)).mono ?_
              rintro e ub4 ⟨rfl, hz4⟩
              simp only []
              have hU4 := hV4.trans hz4
              refine hK.out _ _ ⟨fun _ => trivial, hU4⟩ (fun _ => ?_)
              clear hK K
              (try simp only [Act.put, List.setIfInBounds_toArray, List.set_cons_zero, List.set_cons_succ])
              clear hz4 hs4 hx4
              refine wpE_takeT (i := 30) (d := some 86) (v := .bool false) rfl rfl (by kernel_rfl) (by kernel_rfl) (by kernel_rfl) rfl (fun _ _ _ h => h) (by rfl) ?hy110 hU4 ?go110
              case hy110 =>
                intro w9 hT9
                clear hT9
                go_simp
              (try simp only [Act.put, List.setIfInBounds_toArray, List.set_cons_zero, List.set_cons_succ])
              refine wpE_takeT (i := 31) (d := some 87) (v := .bool false) rfl rfl (by kernel_rfl) (by kernel_rfl) (by kernel_rfl) rfl (fun _ _ _ h => h) (by rfl) ?hy111 hU4 ?go111
              case hy111 =>
                intro w9 hT9
                clear hT9
                go_simp
              (try simp only [Act.put, List.setIfInBounds_toArray, List.set_cons_zero, List.set_cons_succ])
              refine wpE_done (by kernel_rfl) ?_ _
              go_wp2_with fail
              go_meet
              case rel => exact ⟨rfl, hU4⟩
            exact AllE.nil
          refine AllE.cons rfl (fun K hK => ?_) ?_
          · simp only [List.getElem_toArray, List.getElem_cons_succ, List.getElem_cons_zero]
            go_simp
            have hY3 := hU2.alloc (.cells #[.int .i64 fb.en, .string fb.kd, .int .i64 fb.day, .int .i64 fb.byy, .int .i64 fb.too, .int .i64 fb.am, .int .i64 fcc.en, .string fcc.kd, .int .i64 fcc.day, .int .i64 fcc.byy, .int .i64 fcc.too, .int .i64 fcc.am] 24)
            refine hK.out _ _ ⟨fun _ => trivial, hY3⟩ (fun _ => ?_)
            clear hK K
            (try simp only [Act.put, List.setIfInBounds_toArray, List.set_cons_zero, List.set_cons_succ])
            refine wpE_all (rs := [17]) (by kernel_rfl) (by simp) ?_
            refine AllE.cons rfl (fun K hK => ?_) AllE.nil
            simp only [List.getElem_toArray, List.getElem_cons_succ, List.getElem_cons_zero]
            go_simp; go_at_call 30
            refine (ex_at_any w6 _ _ 8 [fb, fcc] HSX.out hY3 ex_at8).mono ?_
            rintro e ua3 ⟨A3, q3, rfl, hs3, hx3⟩
            simp only []
            have hV3 := hY3.trans hx3
            refine hK.out _ _ ⟨fun _ => trivial, hV3⟩ (fun _ => ?_)
            clear hK K
            (try simp only [Act.put, List.setIfInBounds_toArray, List.set_cons_zero, List.set_cons_succ])
            refine wpE_all (rs := [21]) (by kernel_rfl) (by simp) ?_
            refine AllE.cons rfl (fun K hK => ?_) AllE.nil
            simp only [List.getElem_toArray, List.getElem_cons_succ, List.getElem_cons_zero]
            go_simp; go_at_call 29
            refine (ex_same_any _ _ _ _ _ _ _ [fb, fcc] hs3 (((SF.two ub2 fb fcc 24).more (by simp)).lift (Nat.le_refl _) hx3) (by decide)).mono ?_
            rintro e ub3 ⟨rfl, hz3⟩
            simp only []
            have hU3 := hV3.trans hz3
            refine hK.out _ _ ⟨fun _ => trivial, hU3⟩ (fun _ => ?_)
            clear hK K
            (try simp only [Act.put, List.setIfInBounds_toArray, List.set_cons_zero, List.set_cons_succ])
            clear hz3 hs3 hx3
            refine wpE_takeT (i := 22) (d := some 78) (v := .bool false) rfl rfl (by kernel_rfl) (by kernel_rfl) (by kernel_rfl) rfl (fun _ _ _ h => h) (by rfl) ?hy112 hU3 ?go112
            case hy112 =>
              intro w9 hT9
              clear hT9
              go_simp
            (try simp only [Act.put, List.setIfInBounds_toArray, List.set_cons_zero, List.set_cons_succ])
            refine wpE_takeT (i := 23) (d := some 79) (v := .bool false) rfl rfl (by kernel_rfl) (by kernel_rfl) (by kernel_rfl) rfl (fun _ _ _ h => h) (by rfl) ?hy113 hU3 ?go113
            case hy113 =>
              intro w9 hT9
              clear hT9
              go_simp
            (try simp only [Act.put, List.setIfInBounds_toArray, List.set_cons_zero, List.set_cons_succ])
            refine wpE_takeT (i := 24) (d := some 80) (v := .bool false) rfl rfl (by kernel_rfl) (by kernel_rfl) (by kernel_rfl) rfl (fun _ _ _ h => h) (by rfl) ?hy114 hU3 ?go114
            case hy114 =>
              intro w9 hT9
              clear hT9
              go_simp
            (try simp only [Act.put, List.setIfInBounds_toArray, List.set_cons_zero, List.set_cons_succ])
            refine wpE_takeT (i := 25) (d := some 81) (v := .slice (some ⟨w.heap.size, 0, none⟩) 4 4) rfl rfl (by kernel_rfl) (by kernel_rfl) (by kernel_rfl) rfl (fun _ _ _ h => h) (by rfl) ?hy115 hU3 ?go115
            case hy115 =>
              intro w9 hT9
              clear hT9
              go_simp
            (try simp only [Act.put, List.setIfInBounds_toArray, List.set_cons_zero, List.set_cons_succ])
            refine wpE_takeT (i := 27) (d := some 83) (v := .agg #[.int .i64 fb.en, .string fb.kd, .int .i64 fb.day, .int .i64 fb.byy, .int .i64 fb.too, .int .i64 fb.am]) rfl rfl (by kernel_rfl) (by kernel_rfl) (by kernel_rfl) rfl (fun _ _ _ h => h) (by rfl) ?hy116 hU3 ?go116
            case hy116 =>
              intro w9 hT9
              obtain ⟨_, g0, g1, g2, g3, g4, g5⟩ := HB9.out.ext hT9
              clear hT9
              go_simp
            (try simp only [Act.put, List.setIfInBounds_toArray, List.set_cons_zero, List.set_cons_succ])
            refine wpE_all (rs := [26, 28]) (by kernel_rfl) (by simp) ?_
            refine AllE.cons rfl (fun K hK => ?_) ?_
            · simp only [List.getElem_toArray, List.getElem_cons_succ, List.getElem_cons_zero]
              go_simp; go_at_call 30
              refine (ex_at_any w6 _ _ 9 [fb] HSX.out hU3 ex_at9).mono ?_
              rintro e ua4 ⟨A4, q4, rfl, hs4, hx4⟩
              simp only []
              have hV4 := hU3.trans hx4
              refine hK.out _ _ ⟨fun _ => trivial, hV4⟩ (fun _ => ?_)
              clear hK K
              (try simp only [Act.put, List.setIfInBounds_toArray, List.set_cons_zero, List.set_cons_succ])
              refine wpE_all (rs := [28]) (by kernel_rfl) (by simp) ?_
              refine AllE.cons rfl (fun K hK => ?_) AllE.nil
              simp only [List.getElem_toArray, List.getElem_cons_succ, List.getElem_cons_zero]
              go_simp
              have hY4 := hV4.alloc (.cells #[.int .i64 fb.en, .string fb.kd, .int .i64 fb.day, .int .i64 fb.byy, .int .i64 fb.too, .int .i64 fb.am] 24)
              refine hK.out _ _ ⟨fun _ => trivial, hY4⟩ (fun _ => ?_)
              clear hK K
              (try simp only [Act.put, List.setIfInBounds_toArray, List.set_cons_zero, List.set_cons_succ])
              refine wpE_all (rs := [29]) (by kernel_rfl) (by simp) ?_
              refine AllE.cons rfl (fun K hK => ?_) AllE.nil
              simp only [List.getElem_toArray, List.getElem_cons_succ, List.getElem_cons_zero]
              go_simp; go_at_call 29
              refine (ex_same_any _ _ _ _ _ _ _ [fb] (hs4.lift (Nat.le_refl _) ((Ext.refl ua4).alloc (.cells #[.int .i64 fb.en, .string fb.kd, .int .i64 fb.day, .int .i64 fb.byy, .int .i64 fb.too, .int .i64 fb.am] 24))) ((SF.one ua4 fb 24).more (by simp)) (by decide)).mono ?_
              rintro e ub4 ⟨rfl, hz4⟩
              simp only []
              have hU4 := hY4.trans hz4
              refine hK.out _ _ ⟨fun _ => trivial, hU4⟩ (fun _ => ?_)
              clear hK K
              (try simp only [Act.put, List.setIfInBounds_toArray, List.set_cons_zero, List.set_cons_succ])
              clear hz4 hs4 hx4
              refine wpE_takeT (i := 30) (d := some 86) (v := .bool false) rfl rfl (by kernel_rfl) (by kernel_rfl) (by kernel_rfl) rfl (fun _ _ _ h => h) (by rfl) ?hy117 hU4 ?go117
              case hy117 =>
                intro w9 hT9
                clear hT9
                go_simp
              (try simp only [Act.put, List.setIfInBounds_toArray, List.set_cons_zero, List.set_cons_succ])
              refine wpE_takeT (i := 31) (d := some 87) (v := .bool false) rfl rfl (by kernel_rfl) (by kernel_rfl) (by kernel_rfl) rfl (fun _ _ _ h => h) (by rfl) ?hy118 hU4 ?go118
              case hy118 =>
                intro w9 hT9
                clear hT9
                go_simp
              (try simp only [Act.put, List.setIfInBounds_toArray, List.set_cons_zero, List.set_cons_succ])
              refine wpE_done (by kernel_rfl) ?_ _
              go_wp2_with fail
              go_meet
              case rel => exact ⟨rfl, hU4⟩
            refine AllE.cons rfl (fun K hK => ?_) ?_
            · simp only [List.getElem_toArray, List.getElem_cons_succ, List.getElem_cons_zero]
              go_simp
              have hY4 := hU3.alloc (.cells #[.int .i64 fb.en, .string fb.kd, .int .i64 fb.day, .int .i64 fb.byy, .int .i64 fb.too, .int .i64 fb.am] 24)
              refine hK.out _ _ ⟨fun _ => trivial, hY4⟩ (fun _ => ?_)
              clear hK K
              (try simp only [Act.put, List.setIfInBounds_toArray, List.set_cons_zero, List.set_cons_succ])
              refine wpE_all (rs := [26]) (by kernel_rfl) (by simp) ?_
              refine AllE.cons rfl (fun K hK => ?_) AllE.nil
              simp only [List.getElem_toArray, List.getElem_cons_succ, List.getElem_cons_zero]
              go_simp; go_at_call 30
              refine (ex_at_any w6 _ _ 9 [fb] HSX.out hY4 ex_at9).mono ?_
              rintro e ua4 ⟨A4, q4, rfl, hs4, hx4⟩
              simp only []
              have hV4 := hY4.trans hx4
              refine hK.out _ _ ⟨fun _ => trivial, hV4⟩ (fun _ => ?_)
              clear hK K
              (try simp only [Act.put, List.setIfInBounds_toArray, List.set_cons_zero, List.set_cons_succ])
              refine wpE_all (rs := [29]) (by kernel_rfl) (by simp) ?_
              refine AllE.cons rfl (fun K hK => ?_) AllE.nil
              simp only [List.getElem_toArray, List.getElem_cons_succ, List.getElem_cons_zero]
              go_simp; go_at_call 29
              refine (ex_same_any _ _ _ _ _ _ _ [fb] hs4 (((SF.one ub3 fb 24).more (by simp)).lift (Nat.le_refl _) hx4) (by decide)).mono ?_
              rintro e ub4 ⟨rfl, hz4⟩
              simp only []
              have hU4 := hV4.trans hz4
              refine hK.out _ _ ⟨fun _ => trivial, hU4⟩ (fun _ => ?_)
              clear hK K
              (try simp only [Act.put, List.setIfInBounds_toArray, List.set_cons_zero, List.set_cons_succ])
              clear hz4 hs4 hx4
              refine wpE_takeT (i := 30) (d := some 86) (v := .bool false) rfl rfl (by kernel_rfl) (by kernel_rfl) (by kernel_rfl) rfl (fun _ _ _ h => h) (by rfl) ?hy119 hU4 ?go119
              case hy119 =>
                intro w9 hT9
                clear hT9
                go_simp
              (try simp only [Act.put, List.setIfInBounds_toArray, List.set_cons_zero, List.set_cons_succ])
              refine wpE_takeT (i := 31) (d := some 87) (v := .bool false) rfl rfl (by kernel_rfl) (by kernel_rfl) (by kernel_rfl) rfl (fun _ _ _ h => h) (by rfl) ?hy120 hU4 ?go120
              case hy120 =>
                intro w9 hT9
                clear hT9
                go_simp
              (try simp only [Act.put, List.setIfInBounds_toArray, List.set_cons_zero, List.set_cons_succ])
              refine wpE_done (by kernel_rfl) ?_ _
              go_wp2_with fail
              go_meet
              case rel => exact ⟨rfl, hU4⟩
            exact AllE.nil
          exact AllE.nil
        exact AllE.nil
      exact AllE.nil
    case rest =>
      obtain ⟨rfl, hx9⟩ := hcut
      go_upto_region 10 with (fail)
      
      refine wp_region_E (fun _ => True) (fun w' => Ext w6 w') (fun _ => true) (by kernel_rfl) ?_
      obtain ⟨u0, hu0, hU0⟩ : ∃ u0, wc.drew = u0 ∧ Ext w6 u0 := ⟨_, rfl, hx9.drew⟩
      rw [hu0]; clear hu0
      refine wpE_takeT (i := 0) (d := some 88) (v := .slice (some ⟨w.heap.size, 0, none⟩) 4 4) rfl rfl (by kernel_rfl) (by kernel_rfl) (by kernel_rfl) rfl (fun _ _ _ h => h) (by rfl) ?hy121 hU0 ?go121
      case hy121 =>
        intro w9 hT9
        clear hT9
        go_simp
      (try simp only [Act.put, List.setIfInBounds_toArray, List.set_cons_zero, List.set_cons_succ])
      refine wpE_takeT (i := 2) (d := some 90) (v := .agg #[.int .i64 fb.en, .string fb.kd, .int .i64 fb.day, .int .i64 fb.byy, .int .i64 fb.too, .int .i64 fb.am]) rfl rfl (by kernel_rfl) (by kernel_rfl) (by kernel_rfl) rfl (fun _ _ _ h => h) (by rfl) ?hy122 hU0 ?go122
      case hy122 =>
        intro w9 hT9
        obtain ⟨_, g0, g1, g2, g3, g4, g5⟩ := HB9.out.ext hT9
        clear hT9
        go_simp
      (try simp only [Act.put, List.setIfInBounds_toArray, List.set_cons_zero, List.set_cons_succ])
      refine wpE_all (rs := [1, 3]) (by kernel_rfl) (by simp) ?_
      refine AllE.cons rfl (fun K hK => ?_) ?_
      · simp only [List.getElem_toArray, List.getElem_cons_succ, List.getElem_cons_zero]
        go_simp; go_at_call 31
        refine (ex_known_any w6 _ _ HSX.out hU0).mono ?_
        rintro e ua1 ⟨A1, q1, rfl, hs1, hx1⟩
        simp only []
        have hV1 := hU0.trans hx1
        refine hK.out _ _ ⟨fun _ => trivial, hV1⟩ (fun _ => ?_)
        clear hK K
        (try simp only [Act.put, List.setIfInBounds_toArray, List.set_cons_zero, List.set_cons_succ])
        refine wpE_all (rs := [3]) (by kernel_rfl) (by simp) ?_
        refine AllE.cons rfl (fun K hK => ?_) AllE.nil
        simp only [List.getElem_toArray, List.getElem_cons_succ, List.getElem_cons_zero]
        go_simp
        have hY1 := hV1.alloc (.cells #[.int .i64 fb.en, .string fb.kd, .int .i64 fb.day, .int .i64 fb.byy, .int .i64 fb.too, .int .i64 fb.am] 24)
        refine hK.out _ _ ⟨fun _ => trivial, hY1⟩ (fun _ => ?_)
        clear hK K
        (try simp only [Act.put, List.setIfInBounds_toArray, List.set_cons_zero, List.set_cons_succ])
        refine wpE_all (rs := [4]) (by kernel_rfl) (by simp) ?_
        refine AllE.cons rfl (fun K hK => ?_) AllE.nil
        simp only [List.getElem_toArray, List.getElem_cons_succ, List.getElem_cons_zero]
        go_simp; go_at_call 29
        refine (ex_same_any _ _ _ _ _ _ _ [fb] (hs1.lift (Nat.le_refl _) ((Ext.refl ua1).alloc (.cells #[.int .i64 fb.en, .string fb.kd, .int .i64 fb.day, .int .i64 fb.byy, .int .i64 fb.too, .int .i64 fb.am] 24))) ((SF.one ua1 fb 24).more (by simp)) (by decide)).mono ?_
        rintro e ub1 ⟨rfl, hz1⟩
        simp only []
        have hU1 := hY1.trans hz1
        refine hK.out _ _ ⟨fun _ => trivial, hU1⟩ (fun _ => ?_)
        clear hK K
        (try simp only [Act.put, List.setIfInBounds_toArray, List.set_cons_zero, List.set_cons_succ])
        clear hz1 hs1 hx1
        refine wpE_takeT (i := 5) (d := some 93) (v := .bool true) rfl rfl (by kernel_rfl) (by kernel_rfl) (by kernel_rfl) rfl (fun _ _ _ h => h) (by rfl) ?hy123 hU1 ?go123
        case hy123 =>
          intro w9 hT9
          clear hT9
          go_simp
        (try simp only [Act.put, List.setIfInBounds_toArray, List.set_cons_zero, List.set_cons_succ])
        refine wpE_takeT (i := 6) (d := some 94) (v := .pointer (some ⟨w4.heap.size, 0, none⟩)) rfl rfl (by kernel_rfl) (by kernel_rfl) (by kernel_rfl) rfl (fun _ _ _ h => h) (by rfl) ?hy124 hU1 ?go124
        case hy124 =>
          intro w9 hT9
          clear hT9
          go_simp
        (try simp only [Act.put, List.setIfInBounds_toArray, List.set_cons_zero, List.set_cons_succ])
        refine wpE_takeT (i := 7) (d := some 95) (v := .slice D1 1 d1) rfl rfl (by kernel_rfl) (by kernel_rfl) (by kernel_rfl) rfl (fun _ _ _ h => h) (by rfl) ?hy125 hU1 ?go125
        case hy125 =>
          intro w9 hT9
          obtain ⟨g0, _⟩ := (HB8.out.ext hT9).cells
          have g1 := g0 0; have g2 := g0 1; clear g0; simp only [List.getElem?_toArray, List.getElem?_cons_zero, List.getElem?_cons_succ] at g1 g2
          clear hT9
          go_simp
        (try simp only [Act.put, List.setIfInBounds_toArray, List.set_cons_zero, List.set_cons_succ])
        refine wpE_takeT (i := 8) (d := some 96) (v := .agg #[.int .i64 fcc.en, .string fcc.kd, .int .i64 fcc.day, .int .i64 fcc.byy, .int .i64 fcc.too, .int .i64 fcc.am]) rfl rfl (by kernel_rfl) (by kernel_rfl) (by kernel_rfl) rfl (fun _ _ _ h => h) (by rfl) ?hy126 hU1 ?go126
        case hy126 =>
          intro w9 hT9
          obtain ⟨_, g0, g1, g2, g3, g4, g5⟩ := HC8.out.ext hT9
          clear hT9
          go_simp
        (try simp only [Act.put, List.setIfInBounds_toArray, List.set_cons_zero, List.set_cons_succ])
        refine wpE_all (rs := [9]) (by kernel_rfl) (by simp) ?_
        refine AllE.cons rfl (fun K hK => ?_) AllE.nil
        simp only [List.getElem_toArray, List.getElem_cons_succ, List.getElem_cons_zero]
        go_simp
        have hY2 := hU1.alloc (.cells #[.int .i64 fcc.en, .string fcc.kd, .int .i64 fcc.day, .int .i64 fcc.byy, .int .i64 fcc.too, .int .i64 fcc.am] 24)
        refine hK.out _ _ ⟨fun _ => trivial, hY2⟩ (fun _ => ?_)
        clear hK K
        (try simp only [Act.put, List.setIfInBounds_toArray, List.set_cons_zero, List.set_cons_succ])
        refine wpE_all (rs := [10]) (by kernel_rfl) (by simp) ?_
        refine AllE.cons rfl (fun K hK => ?_) AllE.nil
        simp only [List.getElem_toArray, List.getElem_cons_succ, List.getElem_cons_zero]
        go_simp; go_at_call 29
        refine (ex_same_any _ _ _ _ _ _ _ [fcc] (SF.lift HD1'.out HZ4.out hY2) ((SF.one ub1 fcc 24).more (by simp)) (by decide)).mono ?_
        rintro e ub2 ⟨rfl, hz2⟩
        simp only []
        have hU2 := hY2.trans hz2
        refine hK.out _ _ ⟨fun _ => trivial, hU2⟩ (fun _ => ?_)
        clear hK K
        (try simp only [Act.put, List.setIfInBounds_toArray, List.set_cons_zero, List.set_cons_succ])
        clear hz2
        refine wpE_takeT (i := 11) (d := some 99) (v := .bool true) rfl rfl (by kernel_rfl) (by kernel_rfl) (by kernel_rfl) rfl (fun _ _ _ h => h) (by rfl) ?hy127 hU2 ?go127
        case hy127 =>
          intro w9 hT9
          clear hT9
          go_simp
        (try simp only [Act.put, List.setIfInBounds_toArray, List.set_cons_zero, List.set_cons_succ])
        refine wpE_takeT (i := 12) (d := some 100) (v := .bool true) rfl rfl (by kernel_rfl) (by kernel_rfl) (by kernel_rfl) rfl (fun _ _ _ h => h) (by rfl) ?hy128 hU2 ?go128
        case hy128 =>
          intro w9 hT9
          clear hT9
          go_simp
        (try simp only [Act.put, List.setIfInBounds_toArray, List.set_cons_zero, List.set_cons_succ])
        refine wpE_takeT (i := 13) (d := some 101) (v := .pointer (some ⟨w4.heap.size, 1, none⟩)) rfl rfl (by kernel_rfl) (by kernel_rfl) (by kernel_rfl) rfl (fun _ _ _ h => h) (by rfl) ?hy129 hU2 ?go129
        case hy129 =>
          intro w9 hT9
          clear hT9
          go_simp
        (try simp only [Act.put, List.setIfInBounds_toArray, List.set_cons_zero, List.set_cons_succ])
        refine wpE_takeT (i := 14) (d := some 102) (v := .slice D2 1 d2) rfl rfl (by kernel_rfl) (by kernel_rfl) (by kernel_rfl) rfl (fun _ _ _ h => h) (by rfl) ?hy130 hU2 ?go130
        case hy130 =>
          intro w9 hT9
          obtain ⟨g0, _⟩ := (HB8.out.ext hT9).cells
          have g1 := g0 0; have g2 := g0 1; clear g0; simp only [List.getElem?_toArray, List.getElem?_cons_zero, List.getElem?_cons_succ] at g1 g2
          clear hT9
          go_simp
        (try simp only [Act.put, List.setIfInBounds_toArray, List.set_cons_zero, List.set_cons_succ])
        refine wpE_takeT (i := 15) (d := some 103) (v := .agg #[.int .i64 fa.en, .string fa.kd, .int .i64 fa.day, .int .i64 fa.byy, .int .i64 fa.too, .int .i64 fa.am]) rfl rfl (by kernel_rfl) (by kernel_rfl) (by kernel_rfl) rfl (fun _ _ _ h => h) (by rfl) ?hy131 hU2 ?go131
        case hy131 =>
          intro w9 hT9
          obtain ⟨_, g0, g1, g2, g3, g4, g5⟩ := HA8.out.ext hT9
          clear hT9
          go_simp
        (try simp only [Act.put, List.setIfInBounds_toArray, List.set_cons_zero, List.set_cons_succ])
        refine wpE_all (rs := [16]) (by kernel_rfl) (by simp) ?_
        refine AllE.cons rfl (fun K hK => ?_) AllE.nil
        simp only [List.getElem_toArray, List.getElem_cons_succ, List.getElem_cons_zero]
        go_simp
        have hY3 := hU2.alloc (.cells #[.int .i64 fa.en, .string fa.kd, .int .i64 fa.day, .int .i64 fa.byy, .int .i64 fa.too, .int .i64 fa.am] 24)
        refine hK.out _ _ ⟨fun _ => trivial, hY3⟩ (fun _ => ?_)
        clear hK K
        (try simp only [Act.put, List.setIfInBounds_toArray, List.set_cons_zero, List.set_cons_succ])
        refine wpE_all (rs := [17]) (by kernel_rfl) (by simp) ?_
        refine AllE.cons rfl (fun K hK => ?_) AllE.nil
        simp only [List.getElem_toArray, List.getElem_cons_succ, List.getElem_cons_zero]
        go_simp; go_at_call 29
        refine (ex_same_any _ _ _ _ _ _ _ [fa] (SF.lift HD2'.out HZ4.out hY3) ((SF.one ub2 fa 24).more (by simp)) (by decide)).mono ?_
        rintro e ub3 ⟨rfl, hz3⟩
        simp only []
        have hU3 := hY3.trans hz3
        refine hK.out _ _ ⟨fun _ => trivial, hU3⟩ (fun _ => ?_)
        clear hK K
        (try simp only [Act.put, List.setIfInBounds_toArray, List.set_cons_zero, List.set_cons_succ])
        clear hz3
        refine wpE_takeT (i := 18) (d := some 106) (v := .bool true) rfl rfl (by kernel_rfl) (by kernel_rfl) (by kernel_rfl) rfl (fun _ _ _ h => h) (by rfl) ?hy132 hU3 ?go132
        case hy132 =>
          intro w9 hT9
          clear hT9
          go_simp
        (try simp only [Act.put, List.setIfInBounds_toArray, List.set_cons_zero, List.set_cons_succ])
        refine wpE_takeT (i := 19) (d := some 0) (v := .bool true) rfl rfl (by kernel_rfl) (by kernel_rfl) (by kernel_rfl) rfl (fun _ _ _ h => h) (by rfl) ?hy133 hU3 ?go133
        case hy133 =>
          intro w9 hT9
          clear hT9
          go_simp
        (try simp only [Act.put, List.setIfInBounds_toArray, List.set_cons_zero])
        refine wpE_done (by kernel_rfl) ?_ _
        go_wp2_with fail
        go_ret
        exact ⟨rfl, HXW.out.trans hU3⟩
      refine AllE.cons rfl (fun K hK => ?_) ?_
      · simp only [List.getElem_toArray, List.getElem_cons_succ, List.getElem_cons_zero]
        go_simp
        have hY1 := hU0.alloc (.cells #[.int .i64 fb.en, .string fb.kd, .int .i64 fb.day, .int .i64 fb.byy, .int .i64 fb.too, .int .i64 fb.am] 24)
        refine hK.out _ _ ⟨fun _ => trivial, hY1⟩ (fun _ => ?_)
        clear hK K
        (try simp only [Act.put, List.setIfInBounds_toArray, List.set_cons_zero, List.set_cons_succ])
        refine wpE_all (rs := [1]) (by kernel_rfl) (by simp) ?_
        refine AllE.cons rfl (fun K hK => ?_) AllE.nil
        simp only [List.getElem_toArray, List.getElem_cons_succ, List.getElem_cons_zero]
        go_simp; go_at_call 31
        refine (ex_known_any w6 _ _ HSX.out hY1).mono ?_
        rintro e ua1 ⟨A1, q1, rfl, hs1, hx1⟩
        simp only []
        have hV1 := hY1.trans hx1
        refine hK.out _ _ ⟨fun _ => trivial, hV1⟩ (fun _ => ?_)
        clear hK K
        (try simp only [Act.put, List.setIfInBounds_toArray, List.set_cons_zero, List.set_cons_succ])
        refine wpE_all (rs := [4]) (by kernel_rfl) (by simp) ?_
        refine AllE.cons rfl (fun K hK => ?_) AllE.nil
        simp only [List.getElem_toArray, List.getElem_cons_succ, List.getElem_cons_zero]
        go_simp; go_at_call 29
        refine (ex_same_any _ _ _ _ _ _ _ [fb] hs1 (((SF.one u0 fb 24).more (by simp)).lift (Nat.le_refl _) hx1) (by decide)).mono ?_
        rintro e ub1 ⟨rfl, hz1⟩
        simp only []
        have hU1 := hV1.trans hz1
        refine hK.out _ _ ⟨fun _ => trivial, hU1⟩ (fun _ => ?_)
        clear hK K
        (try simp only [Act.put, List.setIfInBounds_toArray, List.set_cons_zero, List.set_cons_succ])
        clear hz1 hs1 hx1
        refine wpE_takeT (i := 5) (d := some 93) (v := .bool true) rfl rfl (by kernel_rfl) (by kernel_rfl) (by kernel_rfl) rfl (fun _ _ _ h => h) (by rfl) ?hy134 hU1 ?go134
        case hy134 =>
          intro w9 hT9
          clear hT9
          go_simp
        (try simp only [Act.put, List.setIfInBounds_toArray, List.set_cons_zero, List.set_cons_succ])
        refine wpE_takeT (i := 6) (d := some 94) (v := .pointer (some ⟨w4.heap.size, 0, none⟩)) rfl rfl (by kernel_rfl) (by kernel_rfl) (by kernel_rfl) rfl (fun _ _ _ h => h) (by rfl) ?hy135 hU1 ?go135
        case hy135 =>
          intro w9 hT9
          clear hT9
          go_simp
        (try simp only [Act.put, List.setIfInBounds_toArray, List.set_cons_zero, List.set_cons_succ])
        refine wpE_takeT (i := 7) (d := some 95) (v := .slice D1 1 d1) rfl rfl (by kernel_rfl) (by kernel_rfl) (by kernel_rfl) rfl (fun _ _ _ h => h) (by rfl) ?hy136 hU1 ?go136
        case hy136 =>
          intro w9 hT9
          obtain ⟨g0, _⟩ := (HB8.out.ext hT9).cells
          have g1 := g0 0; have g2 := g0 1; clear g0; simp only [List.getElem?_toArray, List.getElem?_cons_zero, List.getElem?_cons_succ] at g1 g2
          clear hT9
          go_simp
        (try simp only [Act.put, List.setIfInBounds_toArray, List.set_cons_zero, List.set_cons_succ])
        refine wpE_takeT (i := 8) (d := some 96) (v := .agg #[.int .i64 fcc.en, .string fcc.kd, .int .i64 fcc.day, .int .i64 fcc.byy, .int .i64 fcc.too, .int .i64 fcc.am]) rfl rfl (by kernel_rfl) (by kernel_rfl) (by kernel_rfl) rfl (fun _ _ _ h => h) (by rfl) ?hy137 hU1 ?go137
        case hy137 =>
          intro w9 hT9
          obtain ⟨_, g0, g1, g2, g3, g4, g5⟩ := HC8.out.ext hT9
          clear hT9
          go_simp
        (try simp only [Act.put, List.setIfInBounds_toArray, List.set_cons_zero, List.set_cons_succ])
        refine wpE_all (rs := [9]) (by kernel_rfl) (by simp) ?_
        refine AllE.cons rfl (fun K hK => ?_) AllE.nil
        simp only [List.getElem_toArray, List.getElem_cons_succ, List.getElem_cons_zero]
        go_simp
        have hY2 := hU1.alloc (.cells #[.int .i64 fcc.en, .string fcc.kd, .int .i64 fcc.day, .int .i64 fcc.byy, .int .i64 fcc.too, .int .i64 fcc.am] 24)
        refine hK.out _ _ ⟨fun _ => trivial, hY2⟩ (fun _ => ?_)
        clear hK K
        (try simp only [Act.put, List.setIfInBounds_toArray, List.set_cons_zero, List.set_cons_succ])
        refine wpE_all (rs := [10]) (by kernel_rfl) (by simp) ?_
        refine AllE.cons rfl (fun K hK => ?_) AllE.nil
        simp only [List.getElem_toArray, List.getElem_cons_succ, List.getElem_cons_zero]
        go_simp; go_at_call 29
        refine (ex_same_any _ _ _ _ _ _ _ [fcc] (SF.lift HD1'.out HZ4.out hY2) ((SF.one ub1 fcc 24).more (by simp)) (by decide)).mono ?_
        rintro e ub2 ⟨rfl, hz2⟩
        simp only []
        have hU2 := hY2.trans hz2
        refine hK.out _ _ ⟨fun _ => trivial, hU2⟩ (fun _ => ?_)
        clear hK K
        (try simp only [Act.put, List.setIfInBounds_toArray, List.set_cons_zero, List.set_cons_succ])
        clear hz2
        refine wpE_takeT (i := 11) (d := some 99) (v := .bool true) rfl rfl (by kernel_rfl) (by kernel_rfl) (by kernel_rfl) rfl (fun _ _ _ h => h) (by rfl) ?hy138 hU2 ?go138
        case hy138 =>
          intro w9 hT9
          clear hT9
          go_simp
        (try simp only [Act.put, List.setIfInBounds_toArray, List.set_cons_zero, List.set_cons_succ])
        refine wpE_takeT (i := 12) (d := some 100) (v := .bool true) rfl rfl (by kernel_rfl) (by kernel_rfl) (by kernel_rfl) rfl (fun _ _ _ h => h) (by rfl) ?hy139 hU2 ?go139
        case hy139 =>
          intro w9 hT9
          clear hT9
          go_simp
        (try simp only [Act.put, List.setIfInBounds_toArray, List.set_cons_zero, List.set_cons_succ])
        refine wpE_takeT (i := 13) (d := some 101) (v := .pointer (some ⟨w4.heap.size, 1, none⟩)) rfl rfl (by kernel_rfl) (by kernel_rfl) (by kernel_rfl) rfl (fun _ _ _ h => h) (by rfl) ?hy140 hU2 ?go140
        case hy140 =>
          intro w9 hT9
          clear hT9
          go_simp
        (try simp only [Act.put, List.setIfInBounds_toArray, List.set_cons_zero, List.set_cons_succ])
        refine wpE_takeT (i := 14) (d := some 102) (v := .slice D2 1 d2) rfl rfl (by kernel_rfl) (by kernel_rfl) (by kernel_rfl) rfl (fun _ _ _ h => h) (by rfl) ?hy141 hU2 ?go141
        case hy141 =>
          intro w9 hT9
          obtain ⟨g0, _⟩ := (HB8.out.ext hT9).cells
          have g1 := g0 0; have g2 := g0 1; clear g0; simp only [List.getElem?_toArray, List.getElem?_cons_zero, List.getElem?_cons_succ] at g1 g2
          clear hT9
          go_simp
        (try simp only [Act.put, List.setIfInBounds_toArray, List.set_cons_zero, List.set_cons_succ])
        refine wpE_takeT (i := 15) (d := some 103) (v := .agg #[.int .i64 fa.en, .string fa.kd, .int .i64 fa.day, .int .i64 fa.byy, .int .i64 fa.too, .int .i64 fa.am]) rfl rfl (by kernel_rfl) (by kernel_rfl) (by kernel_rfl) rfl (fun _ _ _ h => h) (by rfl) ?hy142 hU2 ?go142
        case hy142 =>
          intro w9 hT9
          obtain ⟨_, g0, g1, g2, g3, g4, g5⟩ := HA8.out.ext hT9
          clear hT9
          go_simp
        (try simp only [Act.put, List.setIfInBounds_toArray, List.set_cons_zero, List.set_cons_succ])
        refine wpE_all (rs := [16]) (by kernel_rfl) (by simp) ?_
        refine AllE.cons rfl (fun K hK => ?_) AllE.nil
        simp only [List.getElem_toArray, List.getElem_cons_succ, List.getElem_cons_zero]
        go_simp
        have hY3 := hU2.alloc (.cells #[.int .i64 fa.en, .string fa.kd, .int .i64 fa.day, .int .i64 fa.byy, .int .i64 fa.too, .int .i64 fa.am] 24)
        refine hK.out _ _ ⟨fun _ => trivial, hY3⟩ (fun _ => ?_)
        clear hK K
        (try simp only [Act.put, List.setIfInBounds_toArray, List.set_cons_zero, List.set_cons_succ])
        refine wpE_all (rs := [17]) (by kernel_rfl) (by simp) ?_
        refine AllE.cons rfl (fun K hK => ?_) AllE.nil
        simp only [List.getElem_toArray, List.getElem_cons_succ, List.getElem_cons_zero]
        go_simp; go_at_call 29
        refine (ex_same_any _ _ _ _ _ _ _ [fa] (SF.lift HD2'.out HZ4.out hY3) ((SF.one ub2 fa 24).more (by simp)) (by decide)).mono ?_
        rintro e ub3 ⟨rfl, hz3⟩
        simp only []
        have hU3 := hY3.trans hz3
        refine hK.out _ _ ⟨fun _ => trivial, hU3⟩ (fun _ => ?_)
        clear hK K
        (try simp only [Act.put, List.setIfInBounds_toArray, List.set_cons_zero, List.set_cons_succ])
        clear hz3
        refine wpE_takeT (i := 18) (d := some 106) (v := .bool true) rfl rfl (by kernel_rfl) (by kernel_rfl) (by kernel_rfl) rfl (fun _ _ _ h => h) (by rfl) ?hy143 hU3 ?go143
        case hy143 =>
          intro w9 hT9
          clear hT9
          go_simp
        (try simp only [Act.put, List.setIfInBounds_toArray, List.set_cons_zero, List.set_cons_succ])
        refine wpE_takeT (i := 19) (d := some 0) (v := .bool true) rfl rfl (by kernel_rfl) (by kernel_rfl) (by kernel_rfl) rfl (fun _ _ _ h => h) (by rfl) ?hy144 hU3 ?go144
        case hy144 =>
          intro w9 hT9
          clear hT9
          go_simp
        (try simp only [Act.put, List.setIfInBounds_toArray, List.set_cons_zero])
        refine wpE_done (by kernel_rfl) ?_ _
        go_wp2_with fail
        go_ret
        exact ⟨rfl, HXW.out.trans hU3⟩
      exact AllE.nil
end Go.Proofs.YtngjghblpbdciaaGreatDoor.Fa
