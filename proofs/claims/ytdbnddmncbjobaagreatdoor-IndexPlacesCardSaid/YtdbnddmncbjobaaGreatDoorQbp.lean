/- The reference's Regular at a table: walked. -/
import Derived.Test.YtdbnddmncbjobaaGreatDoorQbo
namespace Go.Proofs.YtdbnddmncbjobaaGreatDoor
section
open Go Go.RowKit
attribute [local go_sem] Oper.semAt_some

def RoR (w : World) (n : Nat) (s3 : Value) (W : World) : Prop := ∃ i : Nat, i ≤ n ∧ s3 = .int .i64 i ∧ Ext w W
def RiR (w : World) (n2 : Nat) (s4 : Value) (W : World) : Prop := ∃ k : Nat, k + 1 ≤ n2 ∧ s4 = .int .i64 ((k + 1 : Nat) : Int) ∧ Ext w W
set_option maxHeartbeats 4000000 in
set_option maxRecDepth 100000 in
theorem regtab_any (w : World) (T : Tb) (A : Option Addr) (n c M : Nat) (h : TbV w A n c T M) (hM : M ≤ 40000000) : Calls Tryz.prog 30 #[.slice A n c] w fun e w' => e = .returned (.bool true) ∧ Ext w w' := by
  have HR := Lib.hid h.row
  obtain ⟨hn, hnM, hlm⟩ := h.n
  have HL := Lib.hid hn
  have HM := Lib.hid hlm
  have HREG := Lib.hid h.reg
  have HBF := Lib.hid (fun (W : World) (x y : Ct) (hl : CLt x y) => (show Calls Tryz.prog 71 #[.agg #[.int .i64 x.br, .int .i64 x.nu, .int .i64 x.su, .int .i64 x.li], .agg #[.int .i64 y.br, .int .i64 y.nu, .int .i64 y.su, .int .i64 y.li]] W fun e w' => e = .returned (.bool true) ∧ Ext W w' from by
    have := rbefore_any x y W
    rwa [decide_eq_true hl] at this))
  clear h hn hlm
  go_enter Tryz.func30, Tryz.ntmps30
  go_wp2_with fail
  go_loopw [3] (fun s3 W => RoR w n s3 W) (fun s3 _ => toM n s3)
  case atStart => exact ⟨0, by omega, rfl, Ext.refl _⟩
  case round =>
    obtain ⟨i, hi, rfl, hx⟩ := hrel
    have HX := Lib.hid hx
    clear hx
    by_cases hlt : i < n
    case neg =>
      have hni : ¬ ((i : Int) < (n : Int)) := by omega
      go_wp2_with fail
      go_ret
      exact ⟨rfl, HX.out⟩
    have hI : (i : Int) < (n : Int) := by omega
    have hw1 : IntKind.i64.wrap ((i : Int) + 1) = (i : Int) + 1 := IntWalk.i64_in _ (by omega)
    obtain ⟨y, hy⟩ : ∃ y, T[i]? = some y := ⟨_, List.getElem?_eq_getElem (by have := HL.out; omega)⟩
    obtain ⟨b, off, A2, n2, c2, rfl, hb, a0, a1, hnc2, hr2⟩ := it_at HR.out hy
    have hym := List.mem_of_getElem? hy
    have hn2 : n2 ≤ 40000000 := by rw [Lay.row_len hr2]; exact Nat.le_trans (HM.out y hym) hM
    have hn20 : 0 < n2 := by rw [Lay.row_len hr2]; exact List.length_pos_iff.2 (HREG.out.some y hym)
    have HYC := Lib.hid (fun X (hX : Ext w X) => (show X.cell? ⟨b, off + i * 2, none⟩ = some (.string ⟨y.1.toArray⟩) ∧ X.cell? ⟨b, off + i * 2 + 1, none⟩ = some (.slice A2 n2 c2) from ⟨(hX.cells.1 b _ hb).trans a0, (hX.cells.1 b _ hb).trans a1⟩))
    have HR2 := Lib.hid (fun X (hX : Ext w X) => Lay.row_ext hr2 hX)
    have HN2 := Lib.hid (Lay.row_len hr2)
    have HRI := Lib.hid (HREG.out.rise y hym)
    have HKY := Lib.hid (show ∀ i0 x, i = i0 + 1 → T[i0]? = some x → sLt x.1 y.1 = true from fun i0 x e hx => by
      obtain ⟨h1, rfl⟩ := List.getElem?_eq_some_iff.1 hx
      obtain ⟨h2, rfl⟩ := List.getElem?_eq_some_iff.1 hy
      exact List.pairwise_iff_getElem.1 HREG.out.keys i0 i h1 h2 (by omega))
    clear a0 a1
    obtain ⟨a0, a1⟩ := HYC.out _ HX.out
    have hz : ((n2 : Int) == 0) = false := by rw [beq_eq_false_iff_ne]; omega
    have hz' : (n2 == 0) = false := by rw [beq_eq_false_iff_ne]; omega
    clear hr2 hy hym
    go_upto_region 4 with (fail)
    go_cut [35] (fun s35 wx => s35 = .bool false ∧ Ext w wx)
    case first =>
      cases i with
      | zero =>
        have h00 : decide ((0 : Int) < 0) = false := by decide
        have h0' : ¬ ((0 : Int) < 0) := by decide
        go_quiet (fail)
        go_wp2
        go_meet
        case rel => exact ⟨rfl, HX.out.drewN _⟩
      | succ i0 =>
        obtain ⟨x, hx⟩ : ∃ x, T[i0]? = some x := ⟨_, List.getElem?_eq_getElem (by have := HL.out; omega)⟩
        have hlt := HKY.out i0 x rfl hx
        obtain ⟨b', off', A3, n3, c3, e, hb', e0, e1, _, _⟩ := it_at (Lay.row_ext HR.out HX.out) hx
        injection e with e
        injection e with e2 e3
        subst e2 e3
        have hbl : Op.bytesLess x.1 y.1 = true := hlt
        have i1 : (i0 : Int) + 1 < (n : Int) := by omega
        have i2 : (0 : Int) ≤ (i0 : Int) + 1 := by omega
        have i3 : ((i0 : Int) + 1).toNat = i0 + 1 := by omega
        have i4 : (i0 : Int) < (n : Int) := by omega
        have i5 : IntKind.i64.wrap (i0 : Int) = (i0 : Int) := IntWalk.i64_in _ (by omega)
        have i6 : (0 : Int) < (i0 : Int) + 1 := by omega
        clear hlt hx e1
        go_quiet (fail)
        go_wp2
        go_meet
        case rel => exact ⟨rfl, HX.out.drewN _⟩
    case rest =>
      obtain ⟨rfl, hxc⟩ := hcut
      have HXC := Lib.hid hxc
      clear hxc HX a0 a1
      rename World => wc
      go_wp2_with fail
      go_loopw [4] (fun s4 W => RiR wc n2 s4 W) (fun s4 _ => toM n2 s4)
      case atStart => exact ⟨0, by omega, by go_num, Ext.refl _⟩
      case round =>
        obtain ⟨k, hk, rfl, hxr⟩ := hrel
        rename World => wq
        have HXR := Lib.hid (HXC.out.trans hxr)
        have HXQ := Lib.hid hxr
        clear hxr
        obtain ⟨a0, a1⟩ := HYC.out _ HXR.out
        by_cases hk2 : k + 1 < n2
        case neg =>
          obtain rfl : n2 = k + 1 := by omega
          have hnk : ¬ (((k + 1 : Nat) : Int) < ((k + 1 : Nat) : Int)) := by omega
          go_wp2_with fail
          go_roundw
          case rel => exact ⟨i + 1, by omega, by go_num, HXR.out⟩
          case measure => simp only [toM]; omega
        have hkI : ((k + 1 : Nat) : Int) < (n2 : Int) := by omega
        have hkI' : (k : Int) + 1 < (n2 : Int) := by omega
        have hkI2 : (k : Int) < (n2 : Int) := by omega
        have j2 : (0 : Int) ≤ (k : Int) + 1 := by omega
        have j3 : ((k : Int) + 1).toNat = k + 1 := by omega
        have j5 : IntKind.i64.wrap (k : Int) = (k : Int) := IntWalk.i64_in _ (by omega)
        have j6 : IntKind.i64.wrap ((k : Int) + 1) = (k : Int) + 1 := IntWalk.i64_in _ (by omega)
        have j7 : IntKind.i64.wrap ((k : Int) + 1 + 1) = (k : Int) + 1 + 1 := IntWalk.i64_in _ (by omega)
        have j8 : IntKind.i64.wrap ((k : Int) + 1 - 1) = (k : Int) := by rw [show (k : Int) + 1 - 1 = k by omega]; exact j5
        obtain ⟨x, hx⟩ : ∃ x, y.2[k]? = some x := ⟨_, List.getElem?_eq_getElem (by have := HN2.out; omega)⟩
        obtain ⟨v, hv⟩ : ∃ v, y.2[k + 1]? = some v := ⟨_, List.getElem?_eq_getElem (by have := HN2.out; omega)⟩
        have hlt : CLt x v := by
          obtain ⟨h1, rfl⟩ := List.getElem?_eq_some_iff.1 hx
          obtain ⟨h2, rfl⟩ := List.getElem?_eq_some_iff.1 hv
          exact List.pairwise_iff_getElem.1 HRI.out k (k + 1) h1 h2 (by omega)
        obtain ⟨b2, off2, rfl, hb2, _, x0, x1, x2, x3⟩ := ct_at (HR2.out _ HXR.out) hx
        obtain ⟨b2', off2', e, hb2', _, v0, v1, v2, v3⟩ := ct_at (HR2.out _ HXR.out) hv
        injection e with e
        injection e with e2 e3
        subst e2 e3
        have HBV := Lib.hid (fun W => HBF.out W x v hlt)
        have HS := Lib.hid (fun X (hX : Ext wq X) => (show X.cell? ⟨b, off + i * 2 + 1, none⟩ = some (.slice (some ⟨b2, off2, none⟩) n2 c2) ∧ (X.cell? ⟨b2, off2 + k * 4, none⟩ = some (.int .i64 x.br) ∧ X.cell? ⟨b2, off2 + k * 4 + 1, none⟩ = some (.int .i64 x.nu) ∧ X.cell? ⟨b2, off2 + k * 4 + 2, none⟩ = some (.int .i64 x.su) ∧ X.cell? ⟨b2, off2 + k * 4 + 3, none⟩ = some (.int .i64 x.li)) ∧
            X.cell? ⟨b2, off2 + (k + 1) * 4, none⟩ = some (.int .i64 v.br) ∧ X.cell? ⟨b2, off2 + (k + 1) * 4 + 1, none⟩ = some (.int .i64 v.nu) ∧ X.cell? ⟨b2, off2 + (k + 1) * 4 + 2, none⟩ = some (.int .i64 v.su) ∧ X.cell? ⟨b2, off2 + (k + 1) * 4 + 3, none⟩ = some (.int .i64 v.li) from
          ⟨(HYC.out _ (HXR.out.trans hX)).2, ⟨(hX.cells.1 b2 _ hb2).trans x0, (hX.cells.1 b2 _ hb2).trans x1, (hX.cells.1 b2 _ hb2).trans x2, (hX.cells.1 b2 _ hb2).trans x3⟩, (hX.cells.1 b2 _ hb2).trans v0, (hX.cells.1 b2 _ hb2).trans v1, (hX.cells.1 b2 _ hb2).trans v2, (hX.cells.1 b2 _ hb2).trans v3⟩))
        clear hx hv hlt x0 x1 x2 x3 v0 v1 v2 v3
        go_upto_region 9 with (fail)
        clear a0 a1
        have hcur : Ext wq wq.drew := (Ext.refl _).drew
        go_region_held3 (fun X => X.cell? ⟨b, off + i * 2 + 1, none⟩ = some (.slice (some ⟨b2, off2, none⟩) n2 c2) ∧ (X.cell? ⟨b2, off2 + k * 4, none⟩ = some (.int .i64 x.br) ∧ X.cell? ⟨b2, off2 + k * 4 + 1, none⟩ = some (.int .i64 x.nu) ∧ X.cell? ⟨b2, off2 + k * 4 + 2, none⟩ = some (.int .i64 x.su) ∧ X.cell? ⟨b2, off2 + k * 4 + 3, none⟩ = some (.int .i64 x.li)) ∧
            X.cell? ⟨b2, off2 + (k + 1) * 4, none⟩ = some (.int .i64 v.br) ∧ X.cell? ⟨b2, off2 + (k + 1) * 4 + 1, none⟩ = some (.int .i64 v.nu) ∧ X.cell? ⟨b2, off2 + (k + 1) * 4 + 2, none⟩ = some (.int .i64 v.su) ∧ X.cell? ⟨b2, off2 + (k + 1) * 4 + 3, none⟩ = some (.int .i64 v.li))
          (exact HS.out _ hcur) (first | (go_at_call 71; refine (HBV.out _).mono ?_; rintro e w9 ⟨rfl, hx9⟩; have hcur := hcur.trans hx9))
        all_goals
          have HCU := Lib.hid hcur
          clear hcur
          go_wp2_with fail
          go_roundw
          case rel => exact ⟨k + 1, by omega, by go_num, HXQ.out.trans HCU.out⟩
          case measure => simp only [toM]; omega
end
section
open Go Go.RowKit
attribute [local go_sem] Oper.semAt_some

theorem TbV.big {W : World} {A : Option Addr} {n c : Nat} {T : Tb} {M : Nat} (h : TbV W A n c T M) (hM : M ≤ 100000000) : n ≤ 100000000 ∧ ∀ x ∈ T, x.2.length ≤ 100000000 :=
  ⟨by have := h.n.2.1; omega, fun x hx => by have := h.n.2.2 x hx; omega⟩
end
section

theorem hit_lab {b : Bk} (h : OkB b 4 3) {br tb : Int} (h0 : 0 ≤ br) (h1 : br < 256) {ls : List Sea} {k : List UInt8} {c : Ct} (hh : Hit br tb ls b k c) :
    citB c = true ∧ c.br = br ∧ k ≠ [] ∧ ∃ (p : Pg) (x : Ln) (t : Tx), citP b c.nu c.su c.li = some (p, x) ∧ textB b p.ent p.ver = some t ∧ ∃ n : Int, x.fr ≤ n ∧ n < x.un ∧ ∃ w, wordT t n = some w ∧ w.key = k ∧ w.tb = tb ∧ seald ls p.ent p.ver n = false := by
  obtain ⟨p, hp, t, ht, i, x, hx, n, h2, h3, w, hw, hk, hk0, htb, hs, rfl⟩ := hh
  have hl := h.hgt p hp
  have hi := (List.getElem?_eq_some_iff.1 hx).1
  obtain ⟨g1, g2⟩ := pagesS_ok b.ms b.ht 200 3 b.secs 0 h.pgs
  obtain ⟨a1, a2, a3, a4⟩ := g1 p hp
  have hn := h.n
  refine ⟨?_, rfl, hk0, p, x, t, ?_, ht, n, h2, h3, w, hw, hk, htb, hs⟩
  · apply citB_yes <;> simp only [labB] <;> (try simp only [Bool.and_eq_true, decide_eq_true_eq]) <;> omega
  · unfold citP
    have hg : pageP b p.num p.suf = some p := page_of_mem h.okK hp
    simp only
    rw [hg]
    show (if (i : Int) + 1 < 1 then none else _) = _
    rw [if_neg (by omega), show ((i : Int) + 1 - 1).toNat = i by omega, hx]
    rfl
end
section
open Go Go.RowKit
attribute [local go_sem] Oper.semAt_some

/-- Items at a book that was made. -/
theorem items_mk (w : World) (b : Bk) (br tb : Int) (ls : List Sea) (A A2 : Option Addr) (N c n2 c2 : Nat) (P Q : Nat → Prop) (hb : OkB b 4 3) (hr : kSe.row w P A N b.secs) (hs : kSea.row w Q A2 n2 ls) (hn : n2 ≤ 1000000) (hg : ∀ s ∈ ls, OkSea s) (hL : EnvW w) :
    Calls Tryz.prog 19 #[.agg #[.int .i64 b.ms, .int .i64 b.ht, .slice A N c], .int .i64 br, .int .i64 tb, .slice A2 n2 c2] w fun e w' => ∃ A1 n1 c1, e = .returned (.slice A1 n1 c1) ∧ TbV w' A1 n1 c1 (itemsB br tb ls b) 16000000 ∧ Ext w w' := by
  refine (iitems_any P Q w b 4 3 br tb ls A A2 N c n2 c2 hb (by omega) (by omega) (by omega) hr hs hn hg hL).mono ?_
  rintro e w' ⟨A1, n1, c1, rfl, h1, h2⟩
  exact ⟨A1, n1, c1, rfl, TbV.mono h1 (hits_len hb (by omega) br tb ls), h2⟩
end
section
open Go Go.RowKit

end
section
open Go Go.RowKit

/-- A box of four numbers, not frozen. -/
structure Box (W : World) (b : Nat) (v0 v1 v2 v3 : Int) : Prop where
  lt : b < W.heap.size
  c0 : W.cell? ⟨b, 0, none⟩ = some (.int .i64 v0)
  c1 : W.cell? ⟨b, 1, none⟩ = some (.int .i64 v1)
  c2 : W.cell? ⟨b, 2, none⟩ = some (.int .i64 v2)
  c3 : W.cell? ⟨b, 3, none⟩ = some (.int .i64 v3)
  f0 : W.frozen? ⟨b, 0, none⟩ = false
  f1 : W.frozen? ⟨b, 1, none⟩ = false
  f2 : W.frozen? ⟨b, 2, none⟩ = false
  f3 : W.frozen? ⟨b, 3, none⟩ = false
theorem Box.keep {w W W' : World} {b : Nat} {v0 v1 v2 v3 : Int} (h : Box W b v0 v1 v2 v3) (k : Keep w W W') (h1 : b ≠ w.heap.size + 1) (h2 : b ≠ w.heap.size + 2) : Box W' b v0 v1 v2 v3 :=
  ⟨Nat.lt_of_lt_of_le h.lt k.size, by rw [k.cell _ _ h1 h2 h.lt]; exact h.c0, by rw [k.cell _ _ h1 h2 h.lt]; exact h.c1, by rw [k.cell _ _ h1 h2 h.lt]; exact h.c2, by rw [k.cell _ _ h1 h2 h.lt]; exact h.c3,
    by rw [k.frozen _ _ h1 h2 h.lt]; exact h.f0, by rw [k.frozen _ _ h1 h2 h.lt]; exact h.f1, by rw [k.frozen _ _ h1 h2 h.lt]; exact h.f2, by rw [k.frozen _ _ h1 h2 h.lt]; exact h.f3⟩
theorem Box.ext {W W' : World} {b : Nat} {v0 v1 v2 v3 : Int} (h : Box W b v0 v1 v2 v3) (hx : Ext W W') : Box W' b v0 v1 v2 v3 := by
  obtain ⟨q, p⟩ := hx.cells
  exact ⟨Nat.lt_of_lt_of_le h.lt hx.lt, by rw [q _ _ h.lt]; exact h.c0, by rw [q _ _ h.lt]; exact h.c1, by rw [q _ _ h.lt]; exact h.c2, by rw [q _ _ h.lt]; exact h.c3,
    by rw [p _ _ h.lt]; exact h.f0, by rw [p _ _ h.lt]; exact h.f1, by rw [p _ _ h.lt]; exact h.f2, by rw [p _ _ h.lt]; exact h.f3⟩
theorem Box.new (W : World) (v0 v1 v2 v3 : Int) (t : TypeId) : Box (W.alloc (.cells #[.int .i64 v0, .int .i64 v1, .int .i64 v2, .int .i64 v3] t)) W.heap.size v0 v1 v2 v3 :=
  ⟨by simp, by go_simp, by go_simp, by go_simp, by go_simp, by go_simp, by go_simp, by go_simp, by go_simp⟩
theorem Box.other {W : World} {b : Nat} {v0 v1 v2 v3 : Int} (h : Box W b v0 v1 v2 v3) {b' o : Nat} (hne : b' ≠ b) (u : Value) : Box (W.setCell ⟨b', o, none⟩ u) b v0 v1 v2 v3 := by
  have e : ∀ i, (W.setCell ⟨b', o, none⟩ u).cell? ⟨b, i, none⟩ = W.cell? ⟨b, i, none⟩ := fun i => World.cell?_setCell_other _ _ _ _ (by intro e; injection e with e1; exact hne e1)
  have f : ∀ i, (W.setCell ⟨b', o, none⟩ u).frozen? ⟨b, i, none⟩ = W.frozen? ⟨b, i, none⟩ := fun i => by rw [World.frozen?_setCell]
  exact ⟨by simpa using h.lt, by rw [e]; exact h.c0, by rw [e]; exact h.c1, by rw [e]; exact h.c2, by rw [e]; exact h.c3, by rw [f]; exact h.f0, by rw [f]; exact h.f1, by rw [f]; exact h.f2, by rw [f]; exact h.f3⟩
theorem Box.set0 {W : World} {b : Nat} {v0 v1 v2 v3 : Int} (h : Box W b v0 v1 v2 v3) (u : Int) : Box (W.setCell ⟨b, 0, none⟩ (.int .i64 u)) b u v1 v2 v3 := by
  have e : ∀ i, i ≠ 0 → (W.setCell ⟨b, 0, none⟩ (.int .i64 u)).cell? ⟨b, i, none⟩ = W.cell? ⟨b, i, none⟩ := fun i hi => World.cell?_setCell_other _ _ _ _ (by intro e; injection e with e1 e2; exact hi e2.symm)
  have f : ∀ i, (W.setCell ⟨b, 0, none⟩ (.int .i64 u)).frozen? ⟨b, i, none⟩ = W.frozen? ⟨b, i, none⟩ := fun i => by rw [World.frozen?_setCell]
  exact ⟨by simpa using h.lt, World.cell?_setCell_same _ _ _ h.c0, by rw [e _ (by omega)]; exact h.c1, by rw [e _ (by omega)]; exact h.c2, by rw [e _ (by omega)]; exact h.c3, by rw [f]; exact h.f0, by rw [f]; exact h.f1, by rw [f]; exact h.f2, by rw [f]; exact h.f3⟩
theorem Box.set1 {W : World} {b : Nat} {v0 v1 v2 v3 : Int} (h : Box W b v0 v1 v2 v3) (u : Int) : Box (W.setCell ⟨b, 1, none⟩ (.int .i64 u)) b v0 u v2 v3 := by
  have e : ∀ i, i ≠ 1 → (W.setCell ⟨b, 1, none⟩ (.int .i64 u)).cell? ⟨b, i, none⟩ = W.cell? ⟨b, i, none⟩ := fun i hi => World.cell?_setCell_other _ _ _ _ (by intro e; injection e with e1 e2; exact hi e2.symm)
  have f : ∀ i, (W.setCell ⟨b, 1, none⟩ (.int .i64 u)).frozen? ⟨b, i, none⟩ = W.frozen? ⟨b, i, none⟩ := fun i => by rw [World.frozen?_setCell]
  exact ⟨by simpa using h.lt, by rw [e _ (by omega)]; exact h.c0, World.cell?_setCell_same _ _ _ h.c1, by rw [e _ (by omega)]; exact h.c2, by rw [e _ (by omega)]; exact h.c3, by rw [f]; exact h.f0, by rw [f]; exact h.f1, by rw [f]; exact h.f2, by rw [f]; exact h.f3⟩
theorem Box.set2 {W : World} {b : Nat} {v0 v1 v2 v3 : Int} (h : Box W b v0 v1 v2 v3) (u : Int) : Box (W.setCell ⟨b, 2, none⟩ (.int .i64 u)) b v0 v1 u v3 := by
  have e : ∀ i, i ≠ 2 → (W.setCell ⟨b, 2, none⟩ (.int .i64 u)).cell? ⟨b, i, none⟩ = W.cell? ⟨b, i, none⟩ := fun i hi => World.cell?_setCell_other _ _ _ _ (by intro e; injection e with e1 e2; exact hi e2.symm)
  have f : ∀ i, (W.setCell ⟨b, 2, none⟩ (.int .i64 u)).frozen? ⟨b, i, none⟩ = W.frozen? ⟨b, i, none⟩ := fun i => by rw [World.frozen?_setCell]
  exact ⟨by simpa using h.lt, by rw [e _ (by omega)]; exact h.c0, by rw [e _ (by omega)]; exact h.c1, World.cell?_setCell_same _ _ _ h.c2, by rw [e _ (by omega)]; exact h.c3, by rw [f]; exact h.f0, by rw [f]; exact h.f1, by rw [f]; exact h.f2, by rw [f]; exact h.f3⟩
theorem Box.set3 {W : World} {b : Nat} {v0 v1 v2 v3 : Int} (h : Box W b v0 v1 v2 v3) (u : Int) : Box (W.setCell ⟨b, 3, none⟩ (.int .i64 u)) b v0 v1 v2 u := by
  have e : ∀ i, i ≠ 3 → (W.setCell ⟨b, 3, none⟩ (.int .i64 u)).cell? ⟨b, i, none⟩ = W.cell? ⟨b, i, none⟩ := fun i hi => World.cell?_setCell_other _ _ _ _ (by intro e; injection e with e1 e2; exact hi e2.symm)
  have f : ∀ i, (W.setCell ⟨b, 3, none⟩ (.int .i64 u)).frozen? ⟨b, i, none⟩ = W.frozen? ⟨b, i, none⟩ := fun i => by rw [World.frozen?_setCell]
  exact ⟨by simpa using h.lt, by rw [e _ (by omega)]; exact h.c0, by rw [e _ (by omega)]; exact h.c1, by rw [e _ (by omega)]; exact h.c2, World.cell?_setCell_same _ _ _ h.c3, by rw [f]; exact h.f0, by rw [f]; exact h.f1, by rw [f]; exact h.f2, by rw [f]; exact h.f3⟩
theorem Box.store {W : World} {b : Nat} {v0 v1 v2 v3 : Int} (h : Box W b v0 v1 v2 v3) (u0 u1 u2 u3 : Int) :
    Box ((((W.setCell ⟨b, 0, none⟩ (.int .i64 u0)).setCell ⟨b, 1, none⟩ (.int .i64 u1)).setCell ⟨b, 2, none⟩ (.int .i64 u2)).setCell ⟨b, 3, none⟩ (.int .i64 u3)) b u0 u1 u2 u3 :=
  (((h.set0 u0).set1 u1).set2 u2).set3 u3
theorem PSt.other {w W : World} {r : ByteArray} {k : Bool} (h : PSt w W r k) {b o : Nat} (h0 : w.heap.size ≤ b) (h1 : b ≠ w.heap.size + 1) (h2 : b ≠ w.heap.size + 2) (u : Value) : PSt w (W.setCell ⟨b, o, none⟩ u) r k :=
  ⟨h.ext.setCell h0 _, by simpa using h.size, by rw [World.cell?_setCell_other _ _ _ _ (by intro e; injection e with e1; exact h1 e1)]; exact h.rest,
    by rw [World.cell?_setCell_other _ _ _ _ (by intro e; injection e with e1; exact h2 e1)]; exact h.ok, by rw [World.frozen?_setCell]; exact h.frest, by rw [World.frozen?_setCell]; exact h.fok⟩
/-- The world in which the first closure is called. -/
def start (w : World) (s : ByteArray) : World := ((w.alloc (.cells #[.int .i64 0, .int .i64 0, .int .i64 0, .int .i64 0] 69)).alloc (.cells #[.string s] 9)).alloc (.cells #[.bool true] 4)
theorem pst_start (w : World) (s : ByteArray) : PSt w (start w s) s true ∧ Box (start w s) w.heap.size 0 0 0 0 := by
  unfold start
  refine ⟨⟨(((Ext.refl w).alloc _).alloc _).alloc _, by simp, by go_simp, by go_simp, by go_simp, by go_simp⟩, ?_⟩
  exact ((Box.new w 0 0 0 0 69).ext ((Ext.refl _).alloc _)).ext ((Ext.refl _).alloc _)
end
section
open Go Go.RowKit

def CPost (r : Ct × Int) (w : World) (e : Ending) (w' : World) : Prop := e = .returned (.tuple #[r.1.val, .int .i64 r.2]) ∧ Ext w w'
/-- Behind the literal: the citation's box, the two numbers, what the variables hold. -/
def LitRel (w : World) (r : ByteArray) (k : Bool) (bs xs : List UInt8) (s10 : Value) (wx : World) : Prop :=
  ∃ (b : Nat) (v x : Int), s10 = .pointer (some ⟨b, 0, none⟩) ∧ w.heap.size + 3 ≤ b ∧ Box wx b v 0 0 x ∧ Box wx w.heap.size 0 0 0 0 ∧ PSt w wx r (k && (numP bs).isSome && (numP xs).isSome) ∧ (∀ n, numP bs = some n → v = n) ∧ (∀ n, numP xs = some n → x = n)
theorem cut_len {l a b : List UInt8} {f : Bool} (h : Lib.cut l [47] = (a, b, f)) : a.length ≤ l.length ∧ b.length ≤ l.length := by
  unfold Lib.cut at h
  split at h
  · injection h with h1 h2
    injection h2 with h2 h3
    subst h1 h2
    simp; omega
  · injection h with h1 h2
    injection h2 with h2 h3
    subst h1 h2
    simp
set_option maxHeartbeats 4000000 in
set_option maxRecDepth 100000 in
theorem cparse_any (s : ByteArray) (w : World) (hs : s.size ≤ 281474976710656) (hE : Env w) : Calls Tryz.prog 49 #[.string s] w (CPost (parseP s.data.toList) w) := by
  obtain ⟨b, r, f, hc1⟩ : ∃ b r f, Lib.cut s.data.toList [47] = (b, r, f) := ⟨_, _, _, rfl⟩
  obtain ⟨m, x, g, hc2⟩ : ∃ m x g, Lib.cut r [47] = (m, x, g) := ⟨_, _, _, rfl⟩
  have hpc := parse_cuts s.data.toList b r m x f g hc1 hc2
  have HPC := Lib.hid hpc
  have HS := Lib.hid (pst_start w s)
  have hlen : b.length ≤ 281474976710656 ∧ r.length ≤ 281474976710656 ∧ m.length ≤ 281474976710656 ∧ x.length ≤ 281474976710656 := by
    have h1 := cut_len hc1
    have h2 := cut_len hc2
    have h3 : s.data.toList.length = s.size := by simp
    omega
  obtain ⟨B, hB⟩ : ∃ B : ByteArray, B = ⟨b.toArray⟩ := ⟨_, rfl⟩
  obtain ⟨R, hR⟩ : ∃ B : ByteArray, B = ⟨r.toArray⟩ := ⟨_, rfl⟩
  obtain ⟨M, hM⟩ : ∃ B : ByteArray, B = ⟨m.toArray⟩ := ⟨_, rfl⟩
  obtain ⟨X, hX⟩ : ∃ B : ByteArray, B = ⟨x.toArray⟩ := ⟨_, rfl⟩
  have HP1 := Lib.hid (fun (W : World) (hW : PSt w W s true) => (show Calls Tryz.prog 98 #[.pointer (some ⟨w.heap.size + 1, 0, none⟩), .pointer (some ⟨w.heap.size + 2, 0, none⟩)] W (fun e W' => e = .returned (.string B) ∧ PSt w W' R (true && f) ∧ Keep w W W') from hB ▸ hR ▸ part_any w W s true b r f hs hc1 hW))
  have HP2 := Lib.hid (fun (W : World) (hW : PSt w W R (true && f)) => (show Calls Tryz.prog 98 #[.pointer (some ⟨w.heap.size + 1, 0, none⟩), .pointer (some ⟨w.heap.size + 2, 0, none⟩)] W (fun e W' => e = .returned (.string M) ∧ PSt w W' X (true && f && g) ∧ Keep w W W') from hM ▸ hX ▸ part_any w W R (true && f) m x g (by rw [hR]; exact hlen.2.1) (by rw [hR]; exact hc2) hW))
  have HN1 := Lib.hid (fun (W : World) (k : Bool) (hW : PSt w W X k) (hEW : Ext w W) => (show Calls Tryz.prog 100 #[.string B, .pointer (some ⟨w.heap.size + 2, 0, none⟩)] W (NumPost w W b X k) from by have := num_any w W B X k (by rw [hB]; exact hlen.1) (hE.ext hEW) hW; rw [hB] at this ⊢; exact this))
  have HN2 := Lib.hid (fun (W : World) (k : Bool) (hW : PSt w W X k) (hEW : Ext w W) => (show Calls Tryz.prog 100 #[.string X, .pointer (some ⟨w.heap.size + 2, 0, none⟩)] W (NumPost w W x X k) from by have := num_any w W X X k (by rw [hX]; exact hlen.2.2.2) (hE.ext hEW) hW; rw [hX] at this ⊢; exact this))
  have HL := Lib.hid (fun (W : World) => (show Calls Tryz.prog 103 #[.string M] W (LPost (labR (labP m)) W) from by have := labp_any M W (by rw [hM]; exact hlen.2.2.1); rw [hM] at this ⊢; exact this))
  clear hB hR hM hX hc1 hc2 hpc hlen hE
  go_enter Tryz.func49, Tryz.ntmps49
  go_upto_region 5 with (first
    | (go_at_call 98; refine (HP1.out _ HS.out.1).mono ?_; rintro e w1 ⟨rfl, hS1, hK1⟩)
    | (go_at_call 98; refine (HP2.out _ hS1).mono ?_; rintro e w2 ⟨rfl, hS2, hK2⟩))
  have hb2 : Box w2 w.heap.size 0 0 0 0 := (HS.out.2.keep (hK1.trans hK2) (by omega) (by omega))
  have hsz := hS2.size
  have hx2 := hS2.ext
  go_cut [10] (fun s10 wx => LitRel w X (true && f && g) b x s10 wx)
  case first =>
    have hr2 := hS2.rest
    have hr2a : ∀ o, (w2.alloc o).cell? ⟨w.heap.size + 1, 0, none⟩ = some (.string X) := fun o => (World.cell?_alloc_lt _ _ _ (by show w.heap.size + 1 < w2.heap.size; omega)).trans hr2
    go_region_with (first
      | (have hg := hS3; clear hg; go_at_call 100; refine (HN2.out _ _ (hS3.mono ?_) ?_).mono ?_; (first | exact Ext.refl _ | exact (Ext.refl _).alloc _); (first | exact hS3.ext | exact hS3.ext.alloc _); rintro e w4 ⟨x', rfl, hS4, hK4, hx'⟩; have hsz4 := hS4.size; (first | (have hbr4 := hbr3.keep hK4 (by omega) (by omega)) | (have hbr4 := (hbr3.ext ((Ext.refl _).alloc _)).keep hK4 (by omega) (by omega))); (first | (have hb4 := hb3.keep hK4 (by omega) (by omega); have HB4 := Lib.hid hb4; obtain ⟨a9, a0, a1, a2, a3, g0, g1, g2, g3⟩ := hb4) | (have hb4 := (Box.new w3 0 0 0 0 69).keep hK4 (by omega) (by omega); have HB4 := Lib.hid hb4; obtain ⟨a9, a0, a1, a2, a3, g0, g1, g2, g3⟩ := hb4) | skip))
      | (go_at_call 100; refine (HN1.out _ _ (hS2.mono ?_) ?_).mono ?_; (first | exact (Ext.refl _).drew | exact ((Ext.refl _).alloc _).drew); (first | exact hx2.drew | exact (hx2.alloc _).drew); rintro e w3 ⟨v', rfl, hS3, hK3, hv'⟩; have hsz3 := hS3.size; (first | (have hbr3 := (hb2.ext (Ext.refl _).drew).keep hK3 (by omega) (by omega)) | (have hbr3 := (hb2.ext ((Ext.refl _).alloc _).drew).keep hK3 (by omega) (by omega))); have hr3 := hS3.rest; have hr3a : ∀ o, (w3.alloc o).cell? ⟨w.heap.size + 1, 0, none⟩ = some (.string X) := fun o => (World.cell?_alloc_lt _ _ _ (by show w.heap.size + 1 < w3.heap.size; omega)).trans hr3; (try have hb3 := ((Box.new w2 0 0 0 0 69).ext ((Ext.refl _).drew)).keep hK3 (by omega) (by omega))))
    all_goals
      go_wp2_with fail
      go_meet
      case rel =>
        first
        | exact ⟨_, _, _, rfl, by omega, Box.new _ _ _ _ _ _, hbr4.ext ((Ext.refl _).alloc _), hS4.mono ((Ext.refl _).alloc _), hv', hx'⟩
        | (refine ⟨_, _, _, rfl, ?_, HB4.out.store _ _ _ _, ?_, ?_, hv', hx'⟩
           · omega
           · iterate 4 (refine Box.other ?_ (by omega) _)
             exact hbr4
           · iterate 4 (refine PSt.other ?_ (by omega) (by omega) (by omega) _)
             exact hS4)
  case rest =>
    obtain ⟨b0, v, x', rfl, hbn, hbox, hres, hS, hv, hx'⟩ := hcut
    have hxc := hS.ext
    have hszc := hS.size
    clear HP1 HP2 HN1 HN2 hS1 hS2 hK1 hK2 hb2
    have HV := Lib.hid hv
    have HX := Lib.hid hx'
    clear hv hx'
    cases hK : (true && f && g && (numP b).isSome && (numP x).isSome) with
    | false =>
      rw [hK] at hS
      have hno : parseP s.data.toList = (ct0, 7) := by
        rw [HPC.out]
        split
        · rename_i hfg
          rw [hfg.1, hfg.2] at hK
          cases hb : numP b with
          | none => exact read3_b hb
          | some nb =>
            cases hx : numP x with
            | none => exact read3_x hx
            | some nx => rw [hb, hx] at hK; simp at hK
        · rfl
      have HNO := Lib.hid hno
      have hok := hS.ok
      obtain ⟨e9, e0, e1, e2, e3, k0, k1, k2, k3⟩ := hres
      clear hK hno HPC HL
      go_wp2_with fail
      refine bodyPost_ret (v := .tuple #[.agg #[.int .i64 0, .int .i64 0, .int .i64 0, .int .i64 0], .int .i64 7]) (by simp [results, Tryz.results49, go_sem, *]) rfl ?_
      exact ⟨by rw [HNO.out]; rfl, by repeat (first | exact hxc | refine Ext.setCell ?_ (Nat.le_refl _) _)⟩
    | true =>
      rw [hK] at hS
      simp only [Bool.true_and, Bool.and_eq_true] at hK
      obtain ⟨⟨⟨hf, hg⟩, hb⟩, hx⟩ := hK
      obtain ⟨nb, hb⟩ := Option.isSome_iff_exists.1 hb
      obtain ⟨nx, hx⟩ := Option.isSome_iff_exists.1 hx
      have hP : parseP s.data.toList = read3 b m x := by rw [HPC.out, hf, hg]; simp
      obtain rfl := HV.out nb hb
      obtain rfl := HX.out nx hx
      have hok := hS.ok
      have HLx : ∀ (n0 s0 e0 : Int), labR (labP m) = (n0, s0, e0) → ∀ W, Calls Tryz.prog 103 #[.string M] W (fun e W' => e = .returned (.tuple #[.agg #[.int .i64 n0, .int .i64 s0], .int .i64 e0]) ∧ Ext W W') := fun n0 s0 e0 h W => by
        have := HL.out W; rw [h] at this; exact this
      clear HPC HL HV HX hS
      cases hm : labP m with
      | none =>
        have HF := Lib.hid (show parseP s.data.toList = (ct0, 7) by rw [hP, read3_m hm])
        have HC := Lib.hid (HLx 0 0 7 (by rw [hm]; rfl))
        clear hP hm HLx hb hx hf hg
        go_wp2_with (first | (go_at_call 103; refine (HC.out _).mono ?_; rintro e w5 ⟨rfl, hx5⟩; obtain ⟨e9, e0, e1, e2, e3, k0, k1, k2, k3⟩ := hres.ext hx5))
        refine bodyPost_ret (v := .tuple #[.agg #[.int .i64 0, .int .i64 0, .int .i64 0, .int .i64 0], .int .i64 7]) (by simp [results, Tryz.results49, go_sem, *]) rfl ?_
        exact ⟨by rw [HF.out]; rfl, by repeat (first | exact hxc.trans hx5 | refine Ext.alloc ?_ _ | refine Ext.setCell ?_ (Nat.le_refl _) _)⟩
      | some ns =>
        obtain ⟨n, su⟩ := ns
        have hR := read3_ok hb hx hm
        cases hlb : labB n su with
        | false =>
          have HF := Lib.hid (show parseP s.data.toList = (ct0, 5) by
            rw [hP, hR, if_neg]
            rw [citB_no (.inr (.inr (.inr (.inr hlb))))]; simp)
          have HC := Lib.hid (HLx 0 0 5 (by rw [hm]; unfold labR; simp only [hlb]; rfl))
          clear hP hm HLx hb hx hf hg hR hlb
          go_wp2_with (first | (go_at_call 103; refine (HC.out _).mono ?_; rintro e w5 ⟨rfl, hx5⟩; obtain ⟨e9, e0, e1, e2, e3, k0, k1, k2, k3⟩ := hres.ext hx5))
          refine bodyPost_ret (v := .tuple #[.agg #[.int .i64 0, .int .i64 0, .int .i64 0, .int .i64 0], .int .i64 5]) (by simp [results, Tryz.results49, go_sem, *]) rfl ?_
          exact ⟨by rw [HF.out]; rfl, by repeat (first | exact hxc.trans hx5 | refine Ext.alloc ?_ _ | refine Ext.setCell ?_ (Nat.le_refl _) _)⟩
        | true =>
          have HC := Lib.hid (HLx n su 0 (by rw [hm]; unfold labR; simp only [hlb]; rfl))
          have hd1 : b0 ≠ w.heap.size := by omega
          cases hcb : citB (mkCt nb n su nx) with
          | false =>
            have HF := Lib.hid (show parseP s.data.toList = (ct0, 5) by rw [hP, hR, hcb]; rfl)
            have HVa := Lib.hid (fun W => (show Calls Tryz.prog 104 #[.agg #[.int .i64 nb, .int .i64 n, .int .i64 su, .int .i64 nx]] W (BoolPost false W) from hcb ▸ valid_any (mkCt nb n su nx) W))
            clear hP hm HLx hb hx hf hg hR hlb hcb
            go_wp2_with (first | (go_at_call 103; refine (HC.out _).mono ?_; rintro e w5 ⟨rfl, hx5⟩; obtain ⟨e9, e0, e1, e2, e3, k0, k1, k2, k3⟩ := hres.ext hx5; obtain ⟨d9, d0, d1, d2, d3, l0, l1, l2, l3⟩ := hbox.ext hx5) | (go_at_call 104; refine (HVa.out _).mono ?_; rintro e w6 ⟨rfl, hx6⟩; (first | (have hc6 := ((((hbox.ext hx5).set1 n).set2 su).ext ((Ext.refl _).alloc _)).ext hx6; have hr6 := ((((hres.ext hx5).other hd1 _).other hd1 _).ext ((Ext.refl _).alloc _)).ext hx6) | (have hc6 := ((((hbox.ext hx5).ext ((Ext.refl _).alloc _)).set1 n).set2 su).ext hx6; have hr6 := ((((hres.ext hx5).ext ((Ext.refl _).alloc _)).other hd1 _).other hd1 _).ext hx6)); have HX6 := Lib.hid hx6; clear hx6; obtain ⟨p9, p0, p1, p2, p3, q0, q1, q2, q3⟩ := hc6; obtain ⟨r9, r0, r1, r2, r3, t0, t1, t2, t3⟩ := hr6))
            refine bodyPost_ret (v := .tuple #[.agg #[.int .i64 0, .int .i64 0, .int .i64 0, .int .i64 0], .int .i64 5]) (by simp [results, Tryz.results49, go_sem, *]) rfl ?_
            exact ⟨by rw [HF.out]; rfl, by
              iterate 4 (refine Ext.setCell ?_ (Nat.le_refl _) _)
              refine Ext.trans ?_ HX6.out
              repeat (first | exact hxc.trans hx5 | refine Ext.alloc ?_ _ | refine Ext.setCell ?_ (by show w.heap.size ≤ b0; omega) _)⟩
          | true =>
            have HF := Lib.hid (show parseP s.data.toList = (mkCt nb n su nx, 0) by rw [hP, hR, hcb]; rfl)
            have HVa := Lib.hid (fun W => (show Calls Tryz.prog 104 #[.agg #[.int .i64 nb, .int .i64 n, .int .i64 su, .int .i64 nx]] W (BoolPost true W) from hcb ▸ valid_any (mkCt nb n su nx) W))
            clear hP hm HLx hb hx hf hg hR hlb hcb
            go_wp2_with (first | (go_at_call 103; refine (HC.out _).mono ?_; rintro e w5 ⟨rfl, hx5⟩; obtain ⟨e9, e0, e1, e2, e3, k0, k1, k2, k3⟩ := hres.ext hx5; obtain ⟨d9, d0, d1, d2, d3, l0, l1, l2, l3⟩ := hbox.ext hx5) | (go_at_call 104; refine (HVa.out _).mono ?_; rintro e w6 ⟨rfl, hx6⟩; (first | (have hc6 := ((((hbox.ext hx5).set1 n).set2 su).ext ((Ext.refl _).alloc _)).ext hx6; have hr6 := ((((hres.ext hx5).other hd1 _).other hd1 _).ext ((Ext.refl _).alloc _)).ext hx6) | (have hc6 := ((((hbox.ext hx5).ext ((Ext.refl _).alloc _)).set1 n).set2 su).ext hx6; have hr6 := ((((hres.ext hx5).ext ((Ext.refl _).alloc _)).other hd1 _).other hd1 _).ext hx6)); have HX6 := Lib.hid hx6; clear hx6; obtain ⟨p9, p0, p1, p2, p3, q0, q1, q2, q3⟩ := hc6; obtain ⟨r9, r0, r1, r2, r3, t0, t1, t2, t3⟩ := hr6))
            refine bodyPost_ret (v := .tuple #[.agg #[.int .i64 nb, .int .i64 n, .int .i64 su, .int .i64 nx], .int .i64 0]) (by simp [results, Tryz.results49, go_sem, *]) rfl ?_
            exact ⟨by rw [HF.out]; rfl, by
              iterate 4 (refine Ext.setCell ?_ (Nat.le_refl _) _)
              refine Ext.trans ?_ HX6.out
              repeat (first | exact hxc.trans hx5 | refine Ext.alloc ?_ _ | refine Ext.setCell ?_ (by show w.heap.size ≤ b0; omega) _)⟩
end
section
open Go Go.RowKit

theorem find_yes {w w' : World} {b : Bk} {n s line : Int} {p : Pg} {x : Ln} {z : Ending} (h : citP b n s line = some (p, x)) (g : FindPost w b n s line z w') :
    ∃ (A7 : Option Addr) (n7 c7 : Nat) (A8 : Option Addr) (n8 c8 : Nat) (A1 : Option Addr) (n1 c1 : Nat) (A2 : Option Addr) (n2 c2 : Nat),
    z = .returned (.tuple #[.agg #[.int .i64 p.num, .int .i64 p.suf, .int .i64 p.ent, .int .i64 p.ver, .slice A7 n7 c7, .slice A8 n8 c8], .agg #[.int .i64 x.fr, .int .i64 x.un, .slice A1 n1 c1, .slice A2 n2 c2], .bool true]) ∧ Ext w w' := by
  obtain ⟨hx, ⟨h1, _⟩ | ⟨p', x', A7, n7, c7, A8, n8, c8, A1, n1, c1, A2, n2, c2, h1, rfl, _⟩⟩ := g
  · rw [h] at h1; cases h1
  · rw [h] at h1
    simp only [Option.some.injEq, Prod.mk.injEq] at h1
    obtain ⟨rfl, rfl⟩ := h1
    exact ⟨A7, n7, c7, A8, n8, c8, A1, n1, c1, A2, n2, c2, rfl, hx⟩
theorem txt_size {c : Ct} (h : citB c = true) : (⟨(textPC c).toArray⟩ : ByteArray).size ≤ 1000 := by
  obtain ⟨h1, h2, h3, h4, h5, h6, h7, h8⟩ := citB_cases h
  have e1 := dec_len c.br.toNat (by omega)
  have e2 := lab_len c.nu.toNat c.su.toNat (by omega) (by omega)
  have e3 := dec_len c.li.toNat (by omega)
  have e1' : (Lib.decDigits c.br.toNat).length ≤ 100 := e1
  have e2' : (Lib.decDigits c.nu.toNat ++ lets c.su.toNat).length ≤ 200 := e2
  have e3' : (Lib.decDigits c.li.toNat).length ≤ 100 := e3
  show (textPC c).toArray.size ≤ 1000
  unfold textPC
  rw [if_pos h]
  simp only [List.length_append] at e2'
  simp
  omega
end
end Go.Proofs.YtdbnddmncbjobaaGreatDoor