/- The contracts of facts.Known and facts.History. -/
import Derived.Test.YthjjdeabfnlbjaaDelF
namespace Go.Proofs.Ythjjdeabfnlbjaa
open Go Go.RowKit

def KnownPost (l : List Vr) (day op : Int) (w : World) (e : Ending) (w' : World) : Prop :=
  ∃ (m0 m : List Fc) (A : Option Addr) (c : Nat), e = .returned (.slice A m.length c) ∧ IsAt l op m0 ∧ m = (m0.filter fun f => !pDay day f) ∧ OF w' w.heap.size (.slice A m.length c) m ∧ Ext w w'
theorem known_any (A : Option Addr) (n c : Nat) (l : List Vr) (day op : Int) (w : World) (hl : n ≤ 1000) (h : SV w w.heap.size A n l) (hen : ∀ k, k < n → 0 ≤ (vat l k).fc.en ∧ (vat l k).fc.en ≤ 5) :
    Calls Try.prog 22 #[.slice A n c, .int .i64 day, .int .i64 op] w (KnownPost l day op w) := by
  have HS := Lib.hid h; clear h
  have HEN := Lib.hid hen; clear hen
  go_enter Try.func22, Try.ntmps22
  go_wp2_with fail
  refine (at_any A n c l op _ hl (SV.lift HS.out (Nat.le_refl _) ((Ext.refl w).alloc _)) HEN.out).mono ?_
  rintro e w1 ⟨m0, A1, c1, rfl, hm, h6, hof, hx⟩
  have HM := Lib.hid hm; clear hm
  have HOF := Lib.hid hof; clear hof
  have hcell : w1.cell? ⟨w.heap.size, 0, none⟩ = some (.int .i64 day) := (hx.cells.1 w.heap.size 0 (by simp)).trans (by simp)
  have HC := Lib.hid hcell; clear hcell
  have hx2 : Ext w w1 := ((Ext.refl w).alloc _).trans hx
  go_wp2_with fail
  refine (delF_any A1 m0.length c1 _ m0 day w.heap.size _ rfl (by omega) HOF.out hx.lt HC.out (by simp)).mono ?_
  rintro e w2 ⟨m, A2, c2, hm2, rfl, hof2, hb2⟩
  have HM2 := Lib.hid hm2; clear hm2
  have hx3 : Ext w w2 := Below.trans hx2 (Below.mono hb2 (by simp))
  have HOF2 := Lib.hid hof2; clear hof2 hx hb2
  go_wp2
  go_ret
  exact ⟨m0, m, A2, c2, rfl, HM.out, HM2.out, HOF2.out.base (by simp), hx3⟩

def HistPost (l : List Vr) (en : Int) (w : World) (e : Ending) (w' : World) : Prop :=
  ∃ (m : List Vr) (A : Option Addr) (c : Nat), e = .returned (.slice A m.length c) ∧ m = (l.filter fun v => !pEn en v) ∧ OV w' w.heap.size (.slice A m.length c) m ∧ Ext w w'
theorem hist_any (A : Option Addr) (n c : Nat) (l : List Vr) (en : Int) (w : World) (hl : n ≤ 1000) (h : SV w w.heap.size A n l) :
    Calls Try.prog 24 #[.slice A n c, .int .i64 en] w (HistPost l en w) := by
  have HS := Lib.hid h; clear h
  have HN := Lib.hid HS.out.1
  go_enter Try.func24, Try.ntmps24
  go_wp2_with fail
  refine (clone_any A n c l _ hl (SV.lift HS.out (Nat.le_refl _) ((Ext.refl w).alloc _))).mono ?_
  rintro e w1 ⟨A1, c1, rfl, hof, hx⟩
  have HOF := Lib.hid hof; clear hof
  have hcell : w1.cell? ⟨w.heap.size, 0, none⟩ = some (.int .i64 en) := (hx.cells.1 w.heap.size 0 (by simp)).trans (by simp)
  have HC := Lib.hid hcell; clear hcell
  have hx2 : Ext w w1 := ((Ext.refl w).alloc _).trans hx
  go_wp2_with fail
  refine (delV_any A1 l.length c1 _ l en w.heap.size _ rfl (by rw [HN.out]; omega) HOF.out hx.lt HC.out (by simp)).mono ?_
  rintro e w2 ⟨m, A2, c2, hm2, rfl, hof2, hb2⟩
  have HM2 := Lib.hid hm2; clear hm2
  have hx3 : Ext w w2 := Below.trans hx2 (Below.mono hb2 (by simp))
  have HOF2 := Lib.hid hof2; clear hof2 hx hb2
  go_wp2
  go_ret
  exact ⟨m, A2, c2, rfl, HM2.out, HOF2.out.base (by simp), hx3⟩
end Go.Proofs.Ythjjdeabfnlbjaa
