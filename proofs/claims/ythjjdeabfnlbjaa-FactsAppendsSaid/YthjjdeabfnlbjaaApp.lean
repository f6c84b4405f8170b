/- The contracts of rollbookref18.Append and facts.Append. -/
import Derived.Test.YthjjdeabfnlbjaaClone
import Derived.Deep.RegionLaw
import Derived.Deep.DeepMust
namespace Go.Proofs.Ythjjdeabfnlbjaa
open Go Go.RowKit

theorem OV.alloc {w : World} {base : Nat} {v : Value} {l : List Vr} (h : OV w base v l) (o : Obj) : OV (w.alloc o) base v l := World.ownsRow.alloc h o
theorem OV.drew {w : World} {base : Nat} {v : Value} {l : List Vr} (h : OV w base v l) : OV w.drew base v l := h

/-- The eight cells of a version in a block of its own. -/
def VBox (w : World) (X : Nat) (v : Vr) : Prop := w.cell? ⟨X, 0, none⟩ = some (.int .i64 v.op) ∧ w.cell? ⟨X, 1, none⟩ = some (.bool v.st) ∧ w.cell? ⟨X, 2, none⟩ = some (.int .i64 v.fc.en) ∧ w.cell? ⟨X, 3, none⟩ = some (.string v.fc.kd) ∧
  w.cell? ⟨X, 4, none⟩ = some (.int .i64 v.fc.day) ∧ w.cell? ⟨X, 5, none⟩ = some (.int .i64 v.fc.byy) ∧ w.cell? ⟨X, 6, none⟩ = some (.int .i64 v.fc.too) ∧ w.cell? ⟨X, 7, none⟩ = some (.int .i64 v.fc.am)
theorem VBox.of {w : World} {X : Nat} {v : Vr} (h : ∀ j, w.cell? ⟨X, j, none⟩ = (#[.int .i64 v.op, .bool v.st, .int .i64 v.fc.en, .string v.fc.kd, .int .i64 v.fc.day, .int .i64 v.fc.byy, .int .i64 v.fc.too, .int .i64 v.fc.am] : Array Value)[j]?) : VBox w X v :=
  ⟨h 0, h 1, h 2, h 3, h 4, h 5, h 6, h 7⟩
theorem VBox.ext {w w' : World} {X : Nat} {v : Vr} (h : VBox w X v) (hX : X < w.heap.size) (hx : Ext w w') : VBox w' X v := by
  obtain ⟨a, b, c, d, e, f, g, i⟩ := h
  have k := fun j => hx.cells.1 X j hX
  exact ⟨(k 0).trans a, (k 1).trans b, (k 2).trans c, (k 3).trans d, (k 4).trans e, (k 5).trans f, (k 6).trans g, (k 7).trans i⟩
theorem VBox.drew {w : World} {X : Nat} {v : Vr} (h : VBox w X v) : VBox w.drew X v := h
theorem VBox.alloc {w : World} {X : Nat} {v : Vr} (h : VBox w X v) (hX : X < w.heap.size) (o : Obj) : VBox (w.alloc o) X v := h.ext hX ((Ext.refl w).alloc o)

theorem SV.drew {w : World} {B : Nat} {A : Option Addr} {n : Nat} {l : List Vr} (h : SV w B A n l) : SV w.drew B A n l := h
theorem le_alloc {w : World} {n : Nat} (h : n ≤ w.heap.size) (o : Obj) : n ≤ (w.alloc o).heap.size := by simp; omega
theorem lt_alloc {w : World} {n : Nat} (h : n < w.heap.size) (o : Obj) : n < (w.alloc o).heap.size := by simp; omega
theorem OV.base {w : World} {base base' : Nat} {v : Value} {l : List Vr} (h : OV w base v l) (hb : base' ≤ base) : OV w base' v l :=
  ⟨h.1, h.2.imp id fun ⟨g, cap, cur, e, hg, rest⟩ => ⟨g, cap, cur, e, Nat.le_trans hb hg, rest⟩⟩
theorem OF.base {w : World} {base base' : Nat} {v : Value} {l : List Fc} (h : OF w base v l) (hb : base' ≤ base) : OF w base' v l :=
  ⟨h.1, h.2.imp id fun ⟨g, cap, cur, e, hg, rest⟩ => ⟨g, cap, cur, e, Nat.le_trans hb hg, rest⟩⟩

def AppPost (l : List Vr) (v : Vr) (w : World) (e : Ending) (w' : World) : Prop :=
  (wrongOf l v ≠ 0 ∧ e = .returned (.tuple #[.slice none 0 0, .int .i64 (wrongOf l v)]) ∨
   wrongOf l v = 0 ∧ ∃ A c, e = .returned (.tuple #[.slice A (l.length + 1) c, .int .i64 0]) ∧ OV w' w.heap.size (.slice A (l.length + 1) c) (l ++ [v])) ∧ Ext w w'

set_option maxRecDepth 100000 in
set_option maxHeartbeats 1000000 in
theorem rappend_any (A : Option Addr) (n c : Nat) (l : List Vr) (v : Vr) (w : World) (hl : n ≤ 1000) (h : SV w w.heap.size A n l) (hs : v.fc.kd.size ≤ maxLen) :
    Calls Try.prog 17 #[.slice A n c, v.val] w (AppPost l v w) := by
  obtain rfl : l.length = n := h.1
  have HS := Lib.hid h; clear h
  unfold Vr.val
  go_enter Try.func17, Try.ntmps17
  go_wp2_with fail
  refine (wrong_any _ _ c l v _ hl (SV.lift HS.out (Nat.le_refl _) ((Ext.refl _).alloc _)) hs).mono ?_
  rintro e w1 ⟨rfl, hx1⟩
  have HP : ∀ e w', AppPost l v w e w' = ((wrongOf l v ≠ 0 ∧ e = .returned (.tuple #[.slice none 0 0, .int .i64 (wrongOf l v)]) ∨
   wrongOf l v = 0 ∧ ∃ A c, e = .returned (.tuple #[.slice A (l.length + 1) c, .int .i64 0]) ∧ OV w' w.heap.size (.slice A (l.length + 1) c) (l ++ [v])) ∧ Ext w w') := fun _ _ => rfl
  have HP1 := Lib.hid HP; clear HP
  revert HP1
  generalize wrongOf l v = e0
  intro HP1
  have hx2 : Ext w w1 := ((Ext.refl w).alloc _).trans hx1
  obtain ⟨hc1, hf1⟩ := hx1.cells
  have hz1 : w.heap.size < w1.heap.size := (by have a1 := hx1.lt; simp at a1; omega)
  by_cases he : e0 = 0
  · subst he
    obtain ⟨A1, c1, w2, hrun, hown, hb, hk⟩ := (OV.nil w1 w.heap.size).append (SV.lift HS.out (Nat.le_refl _) hx2) c (by simp; omega) hx2.lt
    simp only [List.length_nil, Nat.zero_add, List.nil_append] at hrun hown
    have hbx : ∀ j, w2.cell? ⟨w.heap.size, j, none⟩ = w1.cell? ⟨w.heap.size, j, none⟩ := fun j => World.cell?_of_block (hk _ hz1 (fun a e => by cases e))
    obtain ⟨A2, c2, w3, hrun2, hown2, hb2, _⟩ := (hown.alloc (.cells #[.int .i64 v.op, .bool v.st, .int .i64 v.fc.en, .string v.fc.kd, .int .i64 v.fc.day, .int .i64 v.fc.byy, .int .i64 v.fc.too, .int .i64 v.fc.am] 32)).append (SV.one w2 v 32) 1 (by omega) (by simp; exact Nat.le_trans hx2.lt (Nat.le_succ_of_le (hb _ (Nat.le_refl _)).size))
    have hx4 : Ext w w3 := Below.trans (Ext.alloc (Below.trans hx2 (hb _ (Nat.le_refl _))) _) (hb2 _ (Nat.le_refl _))
    have HO := Lib.hid hown2
    clear hown hb hk hb2 hown2 hx1
    go_wp2_with (first | (at_builtin; refine wpList_append_run (s := .tmp 14) (x := .tmp 15) hrun rfl rfl rfl rfl rfl ?_) | (at_builtin; refine wpList_append_run (s := .tmp 17) (x := .tmp 19) hrun2 rfl rfl rfl rfl rfl ?_))
    go_ret2
    rw [HP1.out]
    exact ⟨.inr ⟨(by trivial), A2, c2, rfl, HO.out⟩, hx4⟩
  · have hb1 : (e0 == 0) = false := by simpa using he
    have hb2 : (e0 != 0) = true := by simpa using he
    have HE := Lib.hid he; clear he
    go_wp2
    go_ret2
    rw [HP1.out]
    exact ⟨.inl ⟨HE.out, rfl⟩, hx2⟩

set_option maxRecDepth 100000 in
set_option maxHeartbeats 1000000 in
theorem pappend_any (A : Option Addr) (n c : Nat) (l : List Vr) (v : Vr) (w : World) (hl : n ≤ 1000) (h : SV w w.heap.size A n l) (hs : v.fc.kd.size ≤ maxLen) (hks : ∀ k, k < n → (vat l k).fc.kd.size ≤ maxLen) (hok : checkOf l = 0) :
    Calls Try.prog 16 #[.slice A n c, v.val] w (AppPost l v w) := by
  obtain rfl : l.length = n := h.1
  have HS := Lib.hid h; clear h
  have HK := Lib.hid hks; clear hks
  have HOK := Lib.hid hok; clear hok
  unfold Vr.val
  go_enter Try.func16, Try.ntmps16
  go_wp2_with fail
  refine (of_any _ _ c l _ hl (SV.lift HS.out (Nat.le_refl _) ((Ext.refl _).alloc _)) HK.out).mono ?_
  rintro e w1 ⟨⟨hc, b, hb, rfl, hpm⟩ | ⟨hc, rfl⟩, hx1⟩
  case inr => exact absurd HOK.out hc
  clear hc
  have hx2 : Ext w w1 := ((Ext.refl w).alloc _).trans hx1
  obtain ⟨hc1, hf1⟩ := hx1.cells
  have hz1 : w.heap.size < w1.heap.size := (by have a1 := hx1.lt; simp at a1; omega)
  have hbb : w.heap.size < b := by simp at hb; omega
  have HPM := Lib.hid hpm; clear hpm hb
  go_wp2_with fail
  refine (add_any (presOf l) b v (opOf l l.length) _ HPM.out hs).mono ?_
  rintro e w2 ⟨rfl, hg, _⟩
  have hx3 : Ext w w2 := grown_ext hx2 hg (by omega)
  have hcells : ∀ j, w2.cell? ⟨w.heap.size, j, none⟩ = w1.cell? ⟨w.heap.size, j, none⟩ := fun j => World.cell?_of_block (hg.block _ hz1 (fun e => by simp at e; omega))
  rw [addOf_eq]
  have HP : ∀ e w', AppPost l v w e w' = ((wrongOf l v ≠ 0 ∧ e = .returned (.tuple #[.slice none 0 0, .int .i64 (wrongOf l v)]) ∨
   wrongOf l v = 0 ∧ ∃ A c, e = .returned (.tuple #[.slice A (l.length + 1) c, .int .i64 0]) ∧ OV w' w.heap.size (.slice A (l.length + 1) c) (l ++ [v])) ∧ Ext w w') := fun _ _ => rfl
  have HP1 := Lib.hid HP; clear HP
  revert HP1
  generalize wrongOf l v = e0
  intro HP1
  by_cases he : e0 = 0
  · subst he
    have HCL : ∀ W : World, Ext w W → Calls Try.prog 36 #[.slice A l.length c] W (ClonePost l W) := fun W hW => clone_any A l.length c l W hl (SV.lift HS.out (Nat.le_refl _) hW)
    have HCL2 := Lib.hid HCL; clear HCL
    have hv2 : VBox w2 w.heap.size v := VBox.of fun j => (hcells j).trans ((hc1 _ _ (by simp)).trans (by rw [cell_of_row _ w.heap.size _ _ 32 (0, 0) (heap_alloc_new w _)]))
    have HV2 := Lib.hid hv2
    obtain ⟨g1, g2, g3, g4, g5, g6, g7, g8⟩ := hv2
    have hz2 : w.heap.size < w2.heap.size := Nat.lt_of_lt_of_le hz1 hg.size
    clear hcells hc1 hf1 hg hx1 hx2
    go_wp2_with fail
    go_region_law (first | (go_simp; go_at_call 36; refine (HCL2.out _ (by first | exact hx3.drew | exact hx3.drew.alloc _)).mono ?_; rintro e W ⟨A1, c1, rfl, hown, hxc⟩; have HO := Lib.hid hown; clear hown; obtain ⟨e1, e2, e3, e4, e5, e6, e7, e8⟩ := VBox.ext (v := v) (X := w.heap.size) (by first | exact HV2.out.drew | exact HV2.out.drew.alloc hz2 _) (by first | exact hz2 | exact lt_alloc hz2 _) hxc; simp only []) | (have tg : Ext w2.drew W := (by with_reducible exact hxc); clear tg; obtain ⟨A2, c2, w3, hrun2, hown2, hb2, _⟩ := (OV.alloc HO.out (.cells #[.int .i64 v.op, .bool v.st, .int .i64 v.fc.en, .string v.fc.kd, .int .i64 v.fc.day, .int .i64 v.fc.byy, .int .i64 v.fc.too, .int .i64 v.fc.am] 32)).append (SV.one W v 32) 1 (by omega) (le_alloc hxc.lt _); refine step_append_run (s := .tmp 27) (x := .tmp 29) hrun2 rfl rfl rfl rfl rfl ?_; have HO2 := Lib.hid hown2; have hx4 : Ext w w3 := Below.trans (Ext.alloc (Ext.trans hx3.drew hxc) _) (hb2 _ hx3.lt); clear hown2 hrun2) | (obtain ⟨A2, c2, w3, hrun2, hown2, hb2, _⟩ := HO.out.append (SV.ext (SV.drew (SV.one w2 v 32)) hxc (by simp)) 1 (by omega) hxc.lt; refine step_append_run (s := .tmp 27) (x := .tmp 29) hrun2 rfl rfl rfl rfl rfl ?_; have HO2 := Lib.hid hown2; have hx4 : Ext w w3 := Below.trans (Ext.trans (Ext.alloc hx3 _).drew hxc) (hb2 _ (le_alloc hx3.lt _)); clear hown2 hrun2))
    all_goals
      go_wp2
      go_ret2
      rw [HP1.out]
      exact ⟨.inr ⟨(by trivial), A2, c2, rfl, HO2.out.base (by first | exact hx3.lt | exact le_alloc hx3.lt _)⟩, hx4⟩
  · have hb1 : (e0 == 0) = false := by simpa using he
    have hb2 : (e0 != 0) = true := by simpa using he
    have HE := Lib.hid he; clear he
    clear hg hx1 hx2
    go_wp2
    go_ret2
    rw [HP1.out]
    exact ⟨.inl ⟨HE.out, rfl⟩, hx3⟩
end Go.Proofs.Ythjjdeabfnlbjaa
