/- The reference's Check at texts that are right: walked. -/
import Derived.Test.YtdbnddmncbjobaaGreatDoorMg
import Derived.Test.YtdbnddmncbjobaaGreatDoorMd
import Derived.Test.YtdbnddmncbjobaaGreatDoorMc
import Derived.Deep.RegionHeld3
import Derived.Deep.RegionLaw
import Derived.Test.YtdbnddmncbjobaaGreatDoorMf
namespace Go.Proofs.YtdbnddmncbjobaaGreatDoor
open Go Go.RowKit

/-- The parts of the body: i are right, k notes were met. -/
def RkO (W : World) (t : Tx) (s3 s4 s5 : Value) (w' : World) : Prop := ∃ (i k : Nat), i ≤ t.paras.length ∧ k ≤ 500 * i ∧ s3 = .int .i64 0 ∧ s5 = .int .i64 i ∧ s4 = .int .i64 ((k : Int) + 1) ∧ Ext W w' ∧
  chkPs t.notes.length (t.paras.length - i) ((t.paras ++ t.notes).drop i) k = .inr t.notes.length
def RkI (W : World) (nn : Int) (p : List Wd) (k0 : Nat) (k1 : Int) (s3 s4 s6 : Value) (w' : World) : Prop := ∃ (j k : Nat), j ≤ p.length ∧ k ≤ k0 + j ∧ s3 = .int .i64 0 ∧ s6 = .int .i64 j ∧ s4 = .int .i64 ((k : Int) + 1) ∧ Ext W w' ∧
  chkWs true nn (p.drop j) k = .inr k1
/-- The notes: i are right. -/
def RkN (W : World) (t : Tx) (k : Nat) (s3 s7 : Value) (w' : World) : Prop := ∃ (i : Nat), i ≤ t.notes.length ∧ s3 = .int .i64 0 ∧ s7 = .int .i64 i ∧ Ext W w' ∧ chkPs t.notes.length 0 (t.notes.drop i) k = .inr t.notes.length
def RkM (W : World) (nn : Int) (p : List Wd) (k : Nat) (k1 : Int) (s3 s8 : Value) (w' : World) : Prop := ∃ (j : Nat), j ≤ p.length ∧ s3 = .int .i64 0 ∧ s8 = .int .i64 j ∧ Ext W w' ∧ chkWs false nn (p.drop j) k = .inr k1
theorem chkPs_cons {nn : Int} {b : Nat} {ps : List (List Wd)} {i : Nat} {p : List Wd} {k K : Int} (hp : ps[i]? = some p) (h : chkPs nn b (ps.drop i) k = .inr K) : ∃ k1, chkWs (decide (0 < b)) nn p k = .inr k1 ∧ chkPs nn (b - 1) (ps.drop (i + 1)) k1 = .inr K := by
  rw [dwl _ hp] at h
  simp only [chkPs] at h
  split at h
  · cases h
  · next k1 hk1 => exact ⟨k1, hk1, h⟩
set_option maxHeartbeats 8000000 in
set_option maxRecDepth 100000 in
theorem rcheck_any (P : Nat → Prop) (w : World) (t : Tx) (A A' : Option Addr) (n n' c c' : Nat) (h1 : kWs.row w P A n t.paras) (h2 : kWs.row w P A' n' t.notes) (hc : chkT t = 0) :
    Calls Tryz.prog 178 #[.agg #[.slice A n c, .slice A' n' c']] w (fun e w' => e = .returned (.int .i64 0) ∧ Ext w w') := by
  have hv := chkT_val hc
  have HE1 := Lib.hid (Lay.row_len h1)
  have HE2 := Lib.hid (Lay.row_len h2)
  have bn : n ≤ 100 := by have := hv.np; have := HE1.out; omega
  have bn' : n' ≤ 100 := by have := hv.nn; have := HE2.out; omega
  have HV := Lib.hid hv.len
  have HP := Lib.hid (chkPs_inv hc)
  have HSZ := Lib.hid (fun X (hX : Ext w X) => rsizes_any P X t A A' n n' c c' (Lay.row_ext h1 hX) (Lay.row_ext h2 hX) hv)
  have HR1 := Lib.hid h1
  have HR2 := Lib.hid h2
  clear h1 h2 hc hv
  go_enter Tryz.func178, Tryz.ntmps178
  go_upto_region 1 with (fail)
  obtain ⟨W0, hW0⟩ : ∃ W0, w.alloc (.cells #[.slice A n c, .slice A' n' c'] 53) = W0 := ⟨_, rfl⟩
  obtain ⟨z, hz⟩ : ∃ z, w.heap.size = z := ⟨_, rfl⟩
  have hx0 : Ext w W0 := by rw [← hW0]; exact (Ext.refl w).alloc _
  have hB0 : W0.heap[z]? = some (.cells #[.slice A n c, .slice A' n' c'] 53 (0, 0)) := by rw [← hW0, ← hz]; exact heap_alloc_at _ _ _ _ rfl
  rw [hW0, hz]
  have HX0 := Lib.hid hx0
  have HB0 := Lib.hid hB0
  have HCA := Lib.hid (fun X (hX : Ext W0 X) => (show X.cell? ⟨z, 0, none⟩ = some (.slice A n c) ∧ X.cell? ⟨z, 1, none⟩ = some (.slice A' n' c') from
    have h9 := (hX.block _ (lt_of_block hB0)).trans hB0
    ⟨cell_of h9 (i := 0) rfl, cell_of h9 (i := 1) rfl⟩))
  have a0 := (HCA.out W0 (Ext.refl _)).1
  have a1 := (HCA.out W0 (Ext.refl _)).2
  clear hW0 hz hx0 hB0
  go_wp2_with (first | (go_at_call 209; refine (HSZ.out _ HX0.out).mono ?_; rintro e w1 ⟨rfl, hx1⟩))
  have HX1 := Lib.hid hx1
  clear a0 a1 hx1
  go_loopw [3, 4, 5, 6] (fun s3 s4 s5 _ w' => RkO w1 t s3 s4 s5 w') (fun _ _ s5 _ _ => toM n s5)
  case atStart => exact ⟨0, 0, by omega, by omega, rfl, rfl, rfl, Ext.refl _, by simpa using HP.out⟩
  case round =>
    obtain ⟨i, k, hi, hk, rfl, rfl, rfl, hx, heq⟩ := hrel
    rename World => wp
    have HEQ := Lib.hid heq
    have HXR := Lib.hid hx
    obtain ⟨c0, c1⟩ := HCA.out _ (HX1.out.trans hx)
    clear hx heq
    rw [← HE1.out] at hi
    by_cases hlt : i < n
    case pos =>
      have hI : (i : Int) < (n : Int) := by omega
      obtain ⟨p, hp⟩ : ∃ p, t.paras[i]? = some p := ⟨_, List.getElem?_eq_getElem (by have := HE1.out; omega)⟩
      have hp' : (t.paras ++ t.notes)[i]? = some p := by rw [List.getElem?_append_left (by have := HE1.out; omega)]; exact hp
      obtain ⟨k1, hw1, hw2⟩ := chkPs_cons hp' HEQ.out
      rw [show decide (0 < t.paras.length - i) = true from decide_eq_true (by have := HE1.out; omega)] at hw1
      have hpl := (HV.out p (List.mem_append_left _ (List.mem_of_getElem? hp))).2
      obtain ⟨gb, off, cs, rfl, hgb, _, hrep, hcell⟩ := Lay.row_at (Lay.row_ext HR1.out (HX0.out.trans (HX1.out.trans HXR.out))) hp
      obtain ⟨Ap, cp, rfl, _, hrowp⟩ := kWs_rep.1 hrep
      have hcl := hcell 0 _ rfl
      rw [kWs_sz, Nat.mul_one, Nat.add_zero] at hcl
      have HRP := Lib.hid hrowp
      have HW1 := Lib.hid hw1
      have HW2 := Lib.hid hw2
      have HCL := Lib.hid (fun X (hX : Ext wp X) => (show X.cell? ⟨z, 0, none⟩ = some (.slice (some ⟨gb, off, none⟩) n c) ∧ X.cell? ⟨z, 1, none⟩ = some (.slice A' n' c') ∧ X.cell? ⟨gb, off + i, none⟩ = some (.slice Ap p.length cp) from
        have h9 := HCA.out X (HX1.out.trans (HXR.out.trans hX))
        ⟨h9.1, h9.2, (hX.cells.1 gb (off + i) (World.block_lt_of_cell? _ _ hcl)).trans hcl⟩))
      clear hp hp' hw1 hw2 hrep hcell hrowp
      go_wp2_with fail
      go_loopw [3, 4, 6] (fun s3 s4 s6 w' => RkI wp t.notes.length p k k1 s3 s4 s6 w') (fun _ _ s6 _ => toM p.length s6)
      case atStart => exact ⟨0, k, by omega, by omega, rfl, rfl, rfl, Ext.refl _, HW1.out⟩
      case round =>
        clear c0 c1 hcl
        obtain ⟨j, k', hj, hk', rfl, rfl, rfl, hxi, heqi⟩ := hrel
        have HEQi := Lib.hid heqi
        have HXI := Lib.hid hxi
        obtain ⟨c0, c1, hcl⟩ := HCL.out _ hxi
        clear hxi heqi
        by_cases hjl : j < p.length
        case neg =>
          obtain rfl : j = p.length := by omega
          have hni : ¬ ((p.length : Int) < (p.length : Int)) := by omega
          have HK1 := Lib.hid (show k1 = (k' : Int) by
            have h := HEQi.out
            rw [List.drop_length, chkWs] at h
            injection h with h; exact h.symm)
          go_wp2_with fail
          go_roundw
          case rel =>
            refine ⟨i + 1, k', by have := HE1.out; omega, by omega, rfl, by simp, rfl, HXR.out.trans HXI.out, ?_⟩
            have h9 := HW2.out
            rw [HK1.out, Nat.sub_sub] at h9
            exact h9
          case measure => simp only [toM]; omega
        have hJ : (j : Int) < (p.length : Int) := by omega
        obtain ⟨x, hx⟩ : ∃ x, p[j]? = some x := ⟨_, List.getElem?_eq_getElem hjl⟩
        obtain ⟨v1, v2, v3, v4⟩ := chkWs_inv (by have h := HEQi.out; rw [dwl _ hx] at h; exact h)
        obtain ⟨g2, o2, cs, rfl, hg2, _, hrep, hcell⟩ := Lay.row_at (Lay.row_ext HRP.out HXI.out) hx
        rw [kWd_rep] at hrep
        subst hrep
        have e0 := hcell 0 _ rfl
        have e1 := hcell 1 _ rfl
        have e2 := hcell 2 _ rfl
        have e3 := hcell 3 _ rfl
        rw [kWd_sz] at e0 e1 e2 e3
        rw [Nat.add_zero] at e0
        obtain ⟨x1, x2, x3, x4⟩ := x
        simp only at v1 v2 v3 v4 e0 e1 e2 e3
        have hn4 : x4 = 0 ∨ (x4 ≠ 0 ∧ x4 = (k' : Int) + 1 ∧ (k' : Int) + 1 ≤ (n' : Int)) := by
          rcases v4 with ⟨e4, _⟩ | ⟨e4, _, e6, e7, _⟩
          · exact .inl e4
          · exact .inr ⟨e4, e6, by have := HE2.out; omega⟩
        have HWD := Lib.hid (fun X => rword_any X x1 x2 x3 x4 ((k' : Int) + 1) (n' : Int) v1 (by
          rcases v2 with v2 | v2
          · exact .inl v2
          · exact .inr v2) v3 hn4)
        have HQ := Lib.hid (fun X (hX : Ext wp X) => HCL.out X hX)
        rename World => wi
        have HQ2 := Lib.hid (fun X (hX : Ext wi X) => (show X.cell? ⟨g2, o2 + j * 4, none⟩ = some (.string ⟨x1.toArray⟩) ∧ X.cell? ⟨g2, o2 + j * 4 + 1, none⟩ = some (.string ⟨x2.toArray⟩) ∧ X.cell? ⟨g2, o2 + j * 4 + 2, none⟩ = some (.int .i64 x3) ∧ X.cell? ⟨g2, o2 + j * 4 + 3, none⟩ = some (.int .i64 x4) from
          have h9 := World.block_lt_of_cell? _ _ e0
          ⟨(hX.cells.1 g2 _ h9).trans e0, (hX.cells.1 g2 _ h9).trans e1, (hX.cells.1 g2 _ h9).trans e2, (hX.cells.1 g2 _ h9).trans e3⟩))
        have V4 := Lib.hid v4
        clear hx hcell v1 v2 v3 v4 hn4
        go_upto_region 11 with (fail)
        have hcur : Ext wi wi.drew := (Ext.refl _).drew
        go_region_held3 (fun W => W.cell? ⟨z, 0, none⟩ = some (.slice (some ⟨gb, off, none⟩) n c) ∧ W.cell? ⟨z, 1, none⟩ = some (.slice A' n' c') ∧ W.cell? ⟨gb, off + i, none⟩ = some (.slice (some ⟨g2, o2, none⟩) p.length cp) ∧ W.cell? ⟨g2, o2 + j * 4, none⟩ = some (.string ⟨x1.toArray⟩) ∧ W.cell? ⟨g2, o2 + j * 4 + 1, none⟩ = some (.string ⟨x2.toArray⟩) ∧ W.cell? ⟨g2, o2 + j * 4 + 2, none⟩ = some (.int .i64 x3) ∧ W.cell? ⟨g2, o2 + j * 4 + 3, none⟩ = some (.int .i64 x4))
          (exact ⟨(HCL.out _ (HXI.out.trans hcur)).1, (HCL.out _ (HXI.out.trans hcur)).2.1, (HCL.out _ (HXI.out.trans hcur)).2.2, (HQ2.out _ hcur).1, (HQ2.out _ hcur).2.1, (HQ2.out _ hcur).2.2.1, (HQ2.out _ hcur).2.2.2⟩)
          (first | (go_at_call 210; refine (HWD.out _).mono ?_; rintro e wG ⟨rfl, hxG⟩; have hcur := hcur.trans hxG))
        clear c0 c1 hcl e0 e1 e2 e3
        obtain ⟨c0, c1, hcl⟩ := HCL.out _ (HXI.out.trans hcur)
        obtain ⟨e0, e1, e2, e3⟩ := HQ2.out _ hcur
        have HXG := Lib.hid (HXI.out.trans hcur)
        clear hcur
        rcases V4.out with ⟨e4, e5⟩ | ⟨e4, e5, e6, e7, e8⟩
        · subst e4
          have HEN := Lib.hid e5
          clear e5
          go_wp2_with fail
          go_roundw
          case rel => exact ⟨j + 1, k', by omega, by omega, rfl, by simp, rfl, HXG.out, HEN.out⟩
          case measure => simp only [toM]; omega
        · have HEN := Lib.hid e8
          subst e6
          have h3' : ¬ ((k' : Int) + 1 = 0) := by omega
          have h4' : (((k' : Int) + 1) == 0) = false := by rw [beq_eq_false_iff_ne]; omega
          clear e5 e8 e7 e4
          go_wp2_with fail
          go_roundw
          case rel => exact ⟨j + 1, k' + 1, by omega, by omega, rfl, by simp, by simp, HXG.out, HEN.out⟩
          case measure => simp only [toM]; omega
    obtain rfl : i = n := by omega
    have hni : ¬ ((i : Int) < (i : Int)) := by omega
    have HE0 := Lib.hid (show chkPs t.notes.length 0 (t.notes.drop 0) k = .inr t.notes.length by
      have h := HEQ.out
      rw [HE1.out, List.drop_left, Nat.sub_self] at h
      exact h)
    go_wp2_with fail
    have HCN := Lib.hid (fun X (hX : Ext wp X) => HCA.out X (HX1.out.trans (HXR.out.trans hX)))
    go_loopw [3, 7, 8] (fun s3 s7 _ w' => RkN wp t k s3 s7 w') (fun _ s7 _ _ => toM n' s7)
    case atStart => exact ⟨0, by omega, rfl, rfl, Ext.refl _, HE0.out⟩
    case round =>
      clear c0 c1
      obtain ⟨q, hq, rfl, rfl, hx, heq⟩ := hrel
      have HEQn := Lib.hid heq
      have HXN := Lib.hid hx
      obtain ⟨c0, c1⟩ := HCN.out _ hx
      clear hx heq
      rw [← HE2.out] at hq
      by_cases hql : q < n'
      case neg =>
        obtain rfl : q = n' := by omega
        have hnq : ¬ ((q : Int) < (q : Int)) := by omega
        have HK : k = q := by
          have h := HEQn.out
          rw [List.drop_of_length_le (by have := HE2.out; omega), chkPs] at h
          injection h with h
          have := HE2.out
          omega
        subst HK
        go_wp2_with fail
        go_ret
        exact ⟨rfl, HX0.out.trans (HX1.out.trans (HXR.out.trans HXN.out))⟩
      have hI : (q : Int) < (n' : Int) := by omega
      obtain ⟨p, hp⟩ : ∃ p, t.notes[q]? = some p := ⟨_, List.getElem?_eq_getElem (by have := HE2.out; omega)⟩
      obtain ⟨k1, hw1, hw2⟩ := chkPs_cons hp HEQn.out
      rw [show decide (0 < 0) = false from rfl] at hw1
      have hpl := (HV.out p (List.mem_append_right _ (List.mem_of_getElem? hp))).2
      obtain ⟨gb, off, cs, rfl, hgb, _, hrep, hcell⟩ := Lay.row_at (Lay.row_ext HR2.out (HX0.out.trans (HX1.out.trans (HXR.out.trans HXN.out)))) hp
      obtain ⟨Ap, cp, rfl, _, hrowp⟩ := kWs_rep.1 hrep
      have hcl := hcell 0 _ rfl
      rw [kWs_sz, Nat.mul_one, Nat.add_zero] at hcl
      have HRP := Lib.hid hrowp
      have HW1 := Lib.hid hw1
      have HW2 := Lib.hid hw2
      rename World => wn
      have HCL := Lib.hid (fun X (hX : Ext wn X) => (show X.cell? ⟨z, 1, none⟩ = some (.slice (some ⟨gb, off, none⟩) n' c') ∧ X.cell? ⟨gb, off + q, none⟩ = some (.slice Ap p.length cp) from
        ⟨(HCN.out X (HXN.out.trans hX)).2, (hX.cells.1 gb (off + q) (World.block_lt_of_cell? _ _ hcl)).trans hcl⟩))
      clear hp hw1 hw2 hrep hcell hrowp
      go_wp2_with fail
      go_loopw [3, 8] (fun s3 s8 w' => RkM wn t.notes.length p k k1 s3 s8 w') (fun _ s8 _ => toM p.length s8)
      case atStart => exact ⟨0, by omega, rfl, rfl, Ext.refl _, HW1.out⟩
      case round =>
        clear c0 c1 hcl
        obtain ⟨j, hj, rfl, rfl, hxi, heqi⟩ := hrel
        have HEQi := Lib.hid heqi
        have HXI := Lib.hid hxi
        obtain ⟨c1, hcl⟩ := HCL.out _ hxi
        clear hxi heqi
        by_cases hjl : j < p.length
        case neg =>
          obtain rfl : j = p.length := by omega
          have hnj : ¬ ((p.length : Int) < (p.length : Int)) := by omega
          have HK1 := Lib.hid (show k1 = (k : Int) by
            have h := HEQi.out
            rw [List.drop_length, chkWs] at h
            injection h with h; exact h.symm)
          go_wp2_with fail
          go_roundw
          case rel =>
            refine ⟨q + 1, by have := HE2.out; omega, rfl, by simp, HXN.out.trans HXI.out, ?_⟩
            have h9 := HW2.out
            rwa [HK1.out] at h9
          case measure => simp only [toM]; omega
        have hJ : (j : Int) < (p.length : Int) := by omega
        obtain ⟨x, hx⟩ : ∃ x, p[j]? = some x := ⟨_, List.getElem?_eq_getElem hjl⟩
        obtain ⟨v1, v2, v3, v4⟩ := chkWs_inv (by have h := HEQi.out; rw [dwl _ hx] at h; exact h)
        have v5 : x.nt = 0 ∧ chkWs false t.notes.length (p.drop (j + 1)) k = .inr k1 := by
          rcases v4 with h | ⟨_, h, _⟩
          · exact h
          · cases h
        obtain ⟨g2, o2, cs, rfl, hg2, _, hrep, hcell⟩ := Lay.row_at (Lay.row_ext HRP.out HXI.out) hx
        rw [kWd_rep] at hrep
        subst hrep
        have e0 := hcell 0 _ rfl
        have e1 := hcell 1 _ rfl
        have e2 := hcell 2 _ rfl
        have e3 := hcell 3 _ rfl
        rw [kWd_sz] at e0 e1 e2 e3
        rw [Nat.add_zero] at e0
        obtain ⟨x1, x2, x3, x4⟩ := x
        simp only at v1 v2 v3 v5 e0 e1 e2 e3
        obtain ⟨rfl, v6⟩ := v5
        have HEN := Lib.hid v6
        have HWD := Lib.hid (fun X => rword_any X x1 x2 x3 0 0 0 v1 (by
          rcases v2 with v2 | v2
          · exact .inl v2
          · exact .inr v2) v3 (.inl rfl))
        clear hx hcell v1 v2 v3 v4 v6
        go_wp2_with (first | (go_at_call 210; refine (HWD.out _).mono ?_; rintro e wG ⟨rfl, hxG⟩))
        go_roundw
        case rel => exact ⟨j + 1, by omega, rfl, by simp, HXI.out.trans hxG, HEN.out⟩
        case measure => simp only [toM]; omega
end Go.Proofs.YtdbnddmncbjobaaGreatDoor

/- The reference's regular: walked at regular arguments. -/
namespace Go.Proofs.YtdbnddmncbjobaaGreatDoor
open Go Go.RowKit

def ReN (w : World) (n : Nat) (s5 : Value) (w' : World) : Prop := ∃ i : Nat, i ≤ n ∧ s5 = .int .i64 i ∧ w = w'
set_option maxHeartbeats 4000000 in
set_option maxRecDepth 100000 in
theorem rregular_any (P : Nat → Prop) (w : World) (A : Option Addr) (n c : Nat) (ws : List Int) (m : Int) (h : kInt.row w P A n ws) (hw : Wdr ws) (hn : n ≤ 500) (hm0 : 500 ≤ m) (hm : m ≤ 2000) :
    Calls Tryz.prog 236 #[.slice A n c, .int .i64 m] w (fun e w' => e = .returned (.int .i64 0) ∧ w = w') := by
  have HE := Lib.hid (Lay.row_len h)
  have HR := Lib.hid h
  have HW := Lib.hid hw
  have h1 : ¬ (500 : Int) < (n : Int) := by omega
  have h2 : ¬ m < 500 := by omega
  have h3 : ¬ (2000 : Int) < m := by omega
  clear h hw
  go_enter Tryz.func236, Tryz.ntmps236
  go_wp2_with fail
  go_loopw [5] (fun s5 w' => ReN w n s5 w') (fun s5 _ => toM n s5)
  case atStart => exact ⟨0, by omega, rfl, rfl⟩
  case round =>
    obtain ⟨i, hi, rfl, rfl⟩ := hrel
    by_cases hlt : i < n
    case neg =>
      obtain rfl : i = n := by omega
      have hni : ¬ ((i : Int) < (i : Int)) := by omega
      go_wp2_with fail
      go_ret
      exact ⟨rfl, rfl⟩
    have hI : (i : Int) < (n : Int) := by omega
    obtain ⟨x, hx⟩ : ∃ x, ws[i]? = some x := ⟨_, List.getElem?_eq_getElem (by have := HE.out; omega)⟩
    have hxb := HW.out x (List.mem_of_getElem? hx)
    obtain ⟨b0, off, rfl, hb0, _, hcell⟩ := int_at HR.out hx
    have y1 : ¬ x < 1 := by omega
    have y2 : ¬ (480 : Int) < x := by omega
    clear hx hxb
    go_wp2_with fail
    go_roundw
    case rel => exact ⟨i + 1, by omega, by simp, rfl⟩
    case measure => simp only [toM]; omega
end Go.Proofs.YtdbnddmncbjobaaGreatDoor

/- The reference's Ends: walked. -/
namespace Go.Proofs.YtdbnddmncbjobaaGreatDoor
open Go Go.RowKit

def ErI (w : World) (bc be n : Nat) (m : Int) (ws : List Int) (i : Nat) (cl el : List Int) (s11 s12 : Value) (w' : World) : Prop := (∃ (q : Nat) (s c : Int) (e : Nat) (x y : Int), i ≤ q ∧ q < ws.length ∧ s11 = .int .i64 s ∧ s12 = .int .i64 ((q : Int) + 1) ∧
  Ext w w' ∧ Arr w' bc (cl.set i x) ∧ Arr w' be (el.set i y) ∧ (i < q → x = c ∧ y = ((i + e : Nat) : Int) ∧ 0 ≤ c) ∧ (q = i → s = m + 6 ∧ x = -1) ∧ 0 ≤ s ∧ s ≤ m + 6 ∧
  bst m ws i = pk s (ws.drop q) (best m (ws.drop (q + 1))) (q - i) c e) ∨
  (∃ cl' el', s12 = .int .i64 ((n : Int) + 1) ∧ Ext w w' ∧ Arr w' bc cl' ∧ Arr w' be el' ∧ EnA m ws i cl' el')
set_option maxHeartbeats 8000000 in
set_option maxRecDepth 100000 in
theorem rends_any (P : Nat → Prop) (w : World) (A : Option Addr) (n c : Nat) (ws : List Int) (m : Int) (h : kInt.row w P A n ws) (hw : Wdr ws) (hn : n ≤ 500) (hm0 : 500 ≤ m) (hm : m ≤ 2000) :
    Calls Tryz.prog 212 #[.slice A n c, .int .i64 m] w (fun e w' => ∃ A' c', e = .returned (.tuple #[.slice A' (lens ws m).length c', .int .i64 0]) ∧ kInt.own 3 w' w.heap.size (fun _ => True) (.slice A' (lens ws m).length c') (cum 0 (lens ws m)) ∧ Ext w w') := by
  have HL := Lib.hid (Lay.row_len h)
  have HR := Lib.hid h
  have HW := Lib.hid hw
  have HC := Lib.hid (rregular_any P w A n c ws m h hw hn hm0 hm)
  clear h hw
  obtain ⟨Z, hz, hmk⟩ := mkInts (n + 1) (by omega) ((n : Int) + 1) (by simp)
  have HZ := Lib.hid hz
  clear hz
  obtain ⟨bc, hbc⟩ : ∃ bc, w.heap.size = bc := ⟨_, rfl⟩
  obtain ⟨w2, hw2⟩ : ∃ w2, w.alloc (.cells Z 3) = w2 := ⟨_, rfl⟩
  obtain ⟨be, hbe⟩ : ∃ be, w2.heap.size = be := ⟨_, rfl⟩
  obtain ⟨w3, hw3⟩ : ∃ w3, w2.alloc (.cells Z 3) = w3 := ⟨_, rfl⟩
  have hne : bc ≠ be := by rw [← hbc, ← hbe, ← hw2, World.size_alloc]; omega
  have HAC := Lib.hid (HZ.out w3 bc (by rw [← hw3, ← hw2, ← hbc]; exact (Below.heap_alloc _ _ _ (by simp)).trans (heap_alloc_new w _)))
  have HAE := Lib.hid (HZ.out w3 be (by rw [← hw3, ← hbe]; exact heap_alloc_new w2 _))
  have HXC := Lib.hid (show Ext w w3 from by rw [← hw3, ← hw2]; exact ((Ext.refl w).alloc _).alloc _)
  have hbc' : w.heap.size ≤ bc := by omega
  have hbe' : w.heap.size ≤ be := by rw [← hbe, ← hw2, World.size_alloc]; omega
  obtain ⟨N1, hN1⟩ : ∃ N1 : Int, (n : Int) - 1 = N1 := ⟨_, rfl⟩
  go_enter Tryz.func212, Tryz.ntmps212
  go_wp2_with (first | (go_at_call 236; refine (HC.out).mono ?_; rintro e w1 ⟨rfl, rfl⟩))
  have HN1 := Lib.hid hN1
  clear hN1
  go_loopw [10, 11, 12] (fun s10 s11 s12 w' => EnO w bc be m ws s10 w') (fun s10 s11 s12 _ => toU s10)
  case atStart =>
    refine ⟨ws.length, _, _, Nat.le_refl _, ?_, HXC.out, HAC.out, HAE.out, by simp [HL.out], by simp [HL.out], fun k h1 h2 => by
      obtain rfl : k = ws.length := by omega
      rw [bst_end]; simp [HL.out], fun k h1 h2 => by omega⟩
    rcases Nat.eq_zero_or_pos n with h0 | h0
    · exact .inl ⟨by have := HL.out; omega, by rw [← HN1.out, h0]; rfl⟩
    · exact .inr ⟨n - 1, by have := HL.out; omega, by rw [← HN1.out, Int.natCast_sub (by omega)]; rfl⟩
  case round =>
    obtain ⟨d, cl, el, hd, hs10, hx, ha, hb, hA⟩ := hrel
    have HX := Lib.hid hx
    have HA := Lib.hid ha
    have HB := Lib.hid hb
    have HE := Lib.hid hA
    clear hx ha hb hA HAC HAE HXC
    rcases hs10 with ⟨rfl, rfl⟩ | ⟨i, rfl, rfl⟩
    · go_wp2_with fail
      have hbelt : be < wr.heap.size := HB.out.lt
      go_loopw [14, 15] (fun s13 s14 w' => EnL w be wr.heap.size m ws el s13 s14 w') (fun _ s14 _ => toM n s14)
      case atStart => exact ⟨0, [], by omega, rfl, Nat.le_refl _, HX.out, HB.out, Lay.own_nil _ _ _ _ _, Nat.le_refl _, by simp⟩
      case round =>
        obtain ⟨i, done, hi, rfl, hbs, hx2, hb2, ho2, hdl, hcu⟩ := hrel
        have HX2 := Lib.hid hx2
        have HB2 := Lib.hid hb2
        have HO2 := Lib.hid ho2
        have HCU := Lib.hid hcu
        clear hx2 hb2 ho2 hcu
        by_cases hlt : i < n
        case neg =>
          obtain rfl : i = n := by have := HL.out; omega
          have hni : ¬ ((i : Int) < (i : Int)) := by omega
          go_wp2_with fail
          obtain ⟨A9, c9, rfl, _⟩ := Lay.own_row HO2.out
          have HD := Lib.hid (show cum 0 (lens ws m) = done by
            have := HCU.out
            rw [HL.out, cum_end, List.append_nil] at this
            exact this)
          have HDL := Lib.hid (show (lens ws m).length = done.length by rw [← HD.out, cum_len])
          refine bodyPost_ret (v := .tuple #[.slice A9 done.length c9, .int .i64 0]) (by simp [results, Tryz.results212, go_sem, *]) rfl ?_
          exact ⟨A9, c9, by rw [HDL.out], by rw [HDL.out, HD.out]; exact own_base HO2.out (by have := HX.out.lt; omega), HX2.out⟩
        have hI : (i : Int) < (n : Int) := by omega
        have hbd := bst_bd (m := m) hm0 HW.out.wds (i := i) (by have := HL.out; omega)
        have hcs := cum_step hm0 HW.out.wds (i := i) (by have := HL.out; omega)
        rw [← HL.out] at hbd
        have hel := HE.out.e i (by omega) (by have := HL.out; omega)
        obtain ⟨x, hx⟩ : ∃ x, x = i + (bst m ws i).2 := ⟨_, rfl⟩
        rw [← hx] at hbd hcs hel
        have hce := HB2.out.cell hel
        have hlto := Lay.own_lt HO2.out
        obtain ⟨A9, c9, w9, hrun, ho9, hb9, hk9, hs9, _⟩ := own_app1 (k := kInt) (Pr := Tryz.prog) (t := 22) Tryz.underlying22 info3 rfl (by decide) (by omega) HO2.out hbs (cs := #[.int .i64 x]) (T := 3) (x := (x : Int)) rfl 1 (by omega)
        have hbn : u14.ownBlock ≠ some be := fun e => by have := (hlto be e).1; omega
        have hB9 := HB2.out.keep (hk9 be HB2.out.lt hbn)
        have hce9 := hB9.cell hel
        have HX9 := Lib.hid (show Ext w w9 from Below.trans HX2.out (hb9 w.heap.size HX.out.lt))
        have HB9 := Lib.hid hB9
        have HO9 := Lib.hid ho9
        have HCS := Lib.hid hcs
        have h1x : i < x := by omega
        have h2x : x ≤ n := hbd.2
        have HS9 := Lib.hid hs9
        clear hB9 ho9 hb9 hk9 hlto hcs hel hs9 hx hbd
        go_wp2_with (first | (at_builtin; refine wpList_append_run (s := .tmp 97) (x := .tmp 102) hrun rfl rfl rfl rfl rfl ?_))
        go_roundw
        case rel => exact ⟨x, done ++ [(x : Int)], by have := HL.out; omega, rfl, Nat.le_trans hbs HS9.out, HX9.out, HB9.out, HO9.out, by simp; omega, by rw [HCU.out, HCS.out]; simp⟩
        case measure => simp only [toM]; omega
    · have hin : i < n := by have := HL.out; omega
      have hfc := HA.out.frozen i
      obtain ⟨x0, hx0⟩ : ∃ x0, cl[i]? = some x0 := ⟨_, List.getElem?_eq_getElem (by rw [HE.out.cn]; omega)⟩
      have hxc := HA.out.cell hx0
      clear hx0
      have HS0 := Lib.hid (HA.out.set i (-1))
      have HS1 := Lib.hid (HB.out.other (a := ⟨bc, i, none⟩) (Ne.symm hne) (.int .i64 (-1)))
      go_wp2_with fail
      go_loopw [11, 12] (fun s11 s12 w' => ErI w bc be n m ws i cl el s11 s12 w') (fun _ s12 _ => toM (n + 2) s12)
      case atStart =>
        refine .inl ⟨i, m + 6, 0, 0, -1, el[i]?.getD 0, Nat.le_refl _, by omega, rfl, rfl, HX.out.setCell (p := ⟨bc, i, none⟩) hbc' _, HS0.out, ?_, fun h => absurd h (Nat.lt_irrefl _), fun _ => ⟨rfl, rfl⟩, by omega, Int.le_refl _, ?_⟩
        · rw [set_same _ _ (by rw [HE.out.en]; omega)]; exact HS1.out
        · rw [Nat.sub_self]; exact bst_pk m ws (by omega)
      case round =>
        clear hfc hxc HS0 HS1
        rcases hrel with ⟨q, s, c1, e1, x, y, hiq, hqn, rfl, rfl, hx, ha, hb, hxy, hs0, hs1, hs2, heq⟩ | ⟨cl', el', rfl, hx, ha, hb, hen⟩
        case inr =>
          have HXr := Lib.hid hx
          have HAr := Lib.hid ha
          have HBr := Lib.hid hb
          have HEN := Lib.hid hen
          have hnn : ¬ ((n : Int) + 1 ≤ (n : Int)) := by omega
          clear hx ha hb hen
          go_wp2_with fail
          go_roundw
          case rel =>
            refine ⟨i, _, _, by omega, ?_, HXr.out, HAr.out, HBr.out, HEN.out⟩
            rcases Nat.eq_zero_or_pos i with h0 | h0
            · exact .inl ⟨h0, by rw [h0]; rfl⟩
            · exact .inr ⟨i - 1, by omega, by rw [Int.natCast_sub (by omega)]; rfl⟩
          case measure => simp only [toU]; omega
        obtain ⟨v, hv⟩ : ∃ v, ws[q]? = some v := ⟨_, List.getElem?_eq_getElem hqn⟩
        have hvb := HW.out v (List.mem_of_getElem? hv)
        obtain ⟨b0, off, rfl, hb0, _, hcell⟩ := int_at (Lay.row_ext HR.out hx) hv
        have hst := pk_step m ws hqn v hv (q - i) s c1 e1
        rw [← heq] at hst
        obtain ⟨z, hz⟩ : ∃ z, s - (v + 6) = z := ⟨_, rfl⟩
        have hz' : s - 6 - v = z := by omega
        rw [hz] at hst
        have HST := Lib.hid hst
        have HXr := Lib.hid hx
        have HAr := Lib.hid ha
        have HBr := Lib.hid hb
        have HXY := Lib.hid hxy
        clear hst heq hv hx ha hb hxy
        have hq5 : (q : Int) < 500 := by have := HL.out; omega
        have hq6 : (q : Int) < (n : Int) := by have := HL.out; omega
        by_cases hz0 : z < 0
        · have hiq' : i < q := by
            rcases Nat.lt_or_ge i q with h | h
            · exact h
            · have := (hs0 (by omega)).1; omega
          have HEN := Lib.hid (HE.out.step (x := c1) (e := e1) (by omega) (by have := HST.out; rwa [if_pos hz0] at this))
          obtain ⟨rfl, rfl, _⟩ := HXY.out hiq'
          clear hs0
          go_wp2_with fail
          go_roundw
          case rel =>
            refine ⟨i, _, _, by omega, ?_, HXr.out, HAr.out, HBr.out, HEN.out⟩
            rcases Nat.eq_zero_or_pos i with h0 | h0
            · exact .inl ⟨h0, by rw [h0]; rfl⟩
            · exact .inr ⟨i - 1, by omega, by rw [Int.natCast_sub (by omega)]; rfl⟩
          case measure => simp only [toU]; omega
        have hzs : z ≤ 2006 := by omega
        have hz1 : 0 ≤ z := by omega
        obtain ⟨zz, hzz⟩ : ∃ zz, z * z = zz := ⟨_, rfl⟩
        have hzz1 : 0 ≤ zz ∧ zz ≤ 4024036 := by
          rw [← hzz]
          exact ⟨Int.mul_nonneg hz1 hz1, Int.le_trans (Int.mul_le_mul hzs hzs hz1 (by omega)) (by omega)⟩
        obtain ⟨hzz2, hzz3⟩ := hzz1
        have hcj := bst_cost (m := m) (by omega) hm HW.out.wds (by have := HL.out; omega) (q + 1)
        have hcc := HE.out.c (q + 1) (by omega) (by omega)
        obtain ⟨cj, hcje⟩ : ∃ cj, (bst m ws (q + 1)).1 = cj := ⟨_, rfl⟩
        rw [hcje] at hcj hcc
        obtain ⟨hcj1, hcj2⟩ := hcj
        have HST2 := Lib.hid (show bst m ws i = if q + 1 = ws.length then (0, q - i + 1) else if q - i = 0 ∨ zz + cj ≤ c1 then pk z (ws.drop (q + 1)) (best m (ws.drop (q + 1 + 1))) (q - i + 1) (zz + cj) (q - i + 1) else pk z (ws.drop (q + 1)) (best m (ws.drop (q + 1 + 1))) (q - i + 1) c1 e1 from by have := HST.out; rwa [if_neg hz0, hzz, hcje] at this)
        have hfc := HAr.out.frozen i
        have hfe := HBr.out.frozen i
        have hxc := HAr.out.cell (show (cl.set i x)[i]? = some x by rw [List.getElem?_set, if_pos rfl, if_pos (by rw [HE.out.cn]; omega)])
        have hxe := HBr.out.cell (show (el.set i y)[i]? = some y by rw [List.getElem?_set, if_pos rfl, if_pos (by rw [HE.out.en]; omega)])
        have hxj := HAr.out.cell (show (cl.set i x)[q + 1]? = some cj by rw [List.getElem?_set, if_neg (by omega)]; exact hcc)
        clear HST hcje hcc
        have HYtdbnddmncbjobaaGreatDoor : q = i ∧ x = -1 ∨ i < q ∧ 0 ≤ x := by
          rcases Nat.lt_or_ge i q with h | h
          · have := HXY.out h; exact .inr ⟨h, by omega⟩
          · exact .inl ⟨by omega, (hs0 (by omega)).2⟩
        by_cases hqe : q + 1 = n
        · have HEN := Lib.hid (HE.out.step (x := 0) (e := q - i + 1) (by omega) (by have := HST2.out; rwa [if_pos (by rw [← HL.out]; exact hqe)] at this))
          have HIQ := Lib.hid (show i + (q - i + 1) = n by omega)
          rw [HIQ.out] at HEN
          have HUP : ∀ nq, ErI w bc be n m ws i cl el (.int .i64 z) (.int .i64 ((n : Int) + 1)) (((wr.drewN nq).setCell ⟨bc, i, none⟩ (.int .i64 0)).setCell ⟨be, i, none⟩ (.int .i64 (n : Int))) := fun nq => by
            have hA := HAr.out.keep (w' := wr.drewN nq) (by simp)
            have hB := HBr.out.keep (w' := wr.drewN nq) (by simp)
            refine .inr ⟨_, _, rfl, (HXr.out.drewN nq).setCell (p := ⟨bc, i, none⟩) hbc' _ |>.setCell (p := ⟨be, i, none⟩) hbe' _, (hA.set i 0).other hne _, (hB.other (a := ⟨bc, i, none⟩) (Ne.symm hne) _).set i _, ?_⟩
            rw [List.set_set, List.set_set]; exact HEN.out
          have HUP1 := Lib.hid HUP
          clear HUP hs0
          have hqz : (q : Int) + 1 = (n : Int) := by omega
          rw [hqe] at hxj
          clear hqe
          have hq1 : (n : Int) - 1 = (q : Int) := by omega
          have hwz : IntKind.i64.wrap (n : Int) = (n : Int) := IntWalk.i64_in _ (by omega)
          have hw2 : IntKind.i64.wrap zz = zz := IntWalk.i64_in _ (by omega)
          have hw3 : IntKind.i64.wrap (zz + cj) = zz + cj := IntWalk.i64_in _ (by omega)
          rcases HYtdbnddmncbjobaaGreatDoor with ⟨rfl, rfl⟩ | ⟨hiq', hx0⟩
          · go_wp2_with fail
            go_roundw
            case rel => exact HUP1.out 0
            case measure => simp only [toM]; omega
          · have hx1 : ¬ x < 0 := by omega
            go_wp2_with fail
            go_roundw
            case rel => exact HUP1.out 0
            case measure => simp only [toM]; omega
        · have hqI : ¬ ((q : Int) + 1 = (n : Int)) := by omega
          have hqB : ((q : Int) + 1 == (n : Int)) = false := by rw [beq_eq_false_iff_ne]; omega
          have HST3 := Lib.hid (show bst m ws i = if q - i = 0 ∨ zz + cj ≤ c1 then pk z (ws.drop (q + 1)) (best m (ws.drop (q + 1 + 1))) (q - i + 1) (zz + cj) (q - i + 1) else pk z (ws.drop (q + 1)) (best m (ws.drop (q + 1 + 1))) (q - i + 1) c1 e1 from by have := HST2.out; rwa [if_neg (by rw [← HL.out]; exact hqe)] at this)
          clear HST2
          have HUP : q - i = 0 ∨ zz + cj ≤ c1 → ∀ nq, ErI w bc be n m ws i cl el (.int .i64 z) (.int .i64 ((q : Int) + 1 + 1)) (((wr.drewN nq).setCell ⟨bc, i, none⟩ (.int .i64 (zz + cj))).setCell ⟨be, i, none⟩ (.int .i64 ((q : Int) + 1))) := fun hor nq => by
            have h3 := HST3.out
            rw [if_pos hor, show q - i + 1 = q + 1 - i by omega] at h3
            have hA := HAr.out.keep (w' := wr.drewN nq) (by simp)
            have hB := HBr.out.keep (w' := wr.drewN nq) (by simp)
            refine .inl ⟨q + 1, z, _, _, zz + cj, (q : Int) + 1, by omega, by have := HL.out; omega, rfl, by simp, (HXr.out.drewN nq).setCell (p := ⟨bc, i, none⟩) hbc' _ |>.setCell (p := ⟨be, i, none⟩) hbe' _, ?_, ?_, fun _ => ⟨rfl, by omega, by omega⟩, fun h => by omega, hz1, by omega, h3⟩
            · have := (hA.set i (zz + cj)).other (a := ⟨be, i, none⟩) hne (.int .i64 ((q : Int) + 1))
              rwa [List.set_set] at this
            · have := (hB.other (a := ⟨bc, i, none⟩) (Ne.symm hne) (.int .i64 (zz + cj))).set i ((q : Int) + 1)
              rwa [List.set_set] at this
          rcases HYtdbnddmncbjobaaGreatDoor with ⟨rfl, rfl⟩ | ⟨hiq', hx0⟩
          · have HUP1 := Lib.hid (HUP (.inl (by omega)))
            clear HUP hs0
            go_wp2_with fail
            go_roundw
            case rel => exact HUP1.out 0
            case measure => simp only [toM]; omega
          · obtain ⟨e5, e6, e7⟩ := HXY.out hiq'
            have hx1 : ¬ x < 0 := by omega
            have hw2 : IntKind.i64.wrap zz = zz := IntWalk.i64_in _ (by omega)
            have hw3 : IntKind.i64.wrap (zz + cj) = zz + cj := IntWalk.i64_in _ (by omega)
            by_cases hle : zz + cj ≤ x
            · have HUP1 := Lib.hid (HUP (.inr (by omega)))
              clear HUP hs0 e5 e6
              go_wp2_with fail
              go_roundw
              case rel => exact HUP1.out 0
              case measure => simp only [toM]; omega
            · have HNO : ∀ nq, ErI w bc be n m ws i cl el (.int .i64 z) (.int .i64 ((q : Int) + 1 + 1)) (wr.drewN nq) := fun nq => by
                have h3 := HST3.out
                rw [if_neg (by omega), show q - i + 1 = q + 1 - i by omega] at h3
                exact .inl ⟨q + 1, z, _, _, x, y, by omega, by have := HL.out; omega, rfl, by simp, HXr.out.drewN nq, HAr.out.keep (w' := wr.drewN nq) (by simp), HBr.out.keep (w' := wr.drewN nq) (by simp), fun _ => ⟨e5, e6, e7⟩, fun h => by omega, hz1, by omega, h3⟩
              have HNO1 := Lib.hid HNO
              have hle' : x < zz + cj := by omega
              clear HUP hs0 e5 e6 HNO
              go_wp2_with fail
              go_roundw
              case rel => exact HNO1.out 0
              case measure => simp only [toM]; omega
end Go.Proofs.YtdbnddmncbjobaaGreatDoor

/- The reference's slack, Gaps and Ints: walked. -/
namespace Go.Proofs.YtdbnddmncbjobaaGreatDoor
open Go Go.RowKit

theorem slackP_sum (ws : List Int) (m : Int) : slackP ws m = m - 6 * ((ws.length : Int) - 1) - ws.sum := by
  suffices ∀ (l : List Int) (s : Int), l.foldl (fun s w => s - (w + 6)) s = s - 6 * (l.length : Int) - l.sum by
    unfold slackP; rw [this]; omega
  intro l
  induction l with
  | nil => intro s; simp
  | cons a r ih => intro s; simp only [List.foldl_cons, ih, List.length_cons, List.sum_cons]; omega
theorem sum_bd {ws : List Int} (h : Wds ws) : 0 ≤ ws.sum ∧ ws.sum ≤ 480 * (ws.length : Int) := by
  induction ws with
  | nil => simp
  | cons a r ih =>
    have h1 := h a (by simp)
    have h2 := ih h.tail
    simp only [List.sum_cons, List.length_cons]
    omega
def RsR (m : Int) (ws : List Int) (W : World) (s5 s6 : Value) (w' : World) : Prop := ∃ i : Nat, i ≤ ws.length ∧ s6 = .int .i64 i ∧ s5 = .int .i64 (m - 6 * ((ws.length : Int) - 1) - (ws.take i).sum) ∧ W = w'
set_option maxHeartbeats 4000000 in
set_option maxRecDepth 100000 in
theorem rslack_any (P : Nat → Prop) (w : World) (A : Option Addr) (n c : Nat) (ws : List Int) (m : Int) (h : kInt.row w P A n ws) (hw : Wds ws) (hn : n ≤ 500) (hm0 : 0 ≤ m) (hm : m ≤ 2000) :
    Calls Tryz.prog 237 #[.slice A n c, .int .i64 m] w (fun e w' => e = .returned (.int .i64 (slackP ws m)) ∧ w = w') := by
  have HL := Lib.hid (Lay.row_len h)
  have HR := Lib.hid h
  have HW := Lib.hid hw
  clear h hw
  have i1 : IntKind.i64.wrap ((n : Int) - 1) = (n : Int) - 1 := IntWalk.i64_in _ (by omega)
  go_enter Tryz.func237, Tryz.ntmps237
  go_wp2_with fail
  go_loopw [5, 6] (fun s5 s6 w' => RsR m ws w s5 s6 w') (fun _ s6 _ => toM n s6)
  case atStart => exact ⟨0, by omega, rfl, by rw [← HL.out]; simp, rfl⟩
  case round =>
    obtain ⟨i, hi, rfl, rfl, rfl⟩ := hrel
    rw [← HL.out] at hi ⊢
    have hb := sum_bd (ws := ws.take i) (fun x hx => HW.out x (List.mem_of_mem_take hx))
    have hti : (ws.take i).length ≤ 500 := by rw [List.length_take]; omega
    obtain ⟨s, hs⟩ : ∃ s, s = m - 6 * ((n : Int) - 1) - (ws.take i).sum := ⟨_, rfl⟩
    rw [← hs]
    have b1 : -300000 ≤ s := by omega
    have b2 : s ≤ 10000 := by omega
    have HS := Lib.hid hs
    clear hs hb hti
    by_cases hlt : i < n
    case neg =>
      obtain rfl : i = n := by omega
      have hni : ¬ ((i : Int) < (i : Int)) := by omega
      have HF := Lib.hid (show slackP ws m = s by rw [HS.out, slackP_sum, HL.out, List.take_length])
      go_wp2_with fail
      go_ret
      exact ⟨ret_i HF.out.symm, rfl⟩
    have hI : (i : Int) < (n : Int) := by omega
    obtain ⟨x, hxi⟩ : ∃ x, ws[i]? = some x := ⟨_, List.getElem?_eq_getElem (by have := HL.out; omega)⟩
    obtain ⟨b, off, rfl, hb1, _, hcell⟩ := int_at HR.out hxi
    have hx := HW.out x (List.mem_of_getElem? hxi)
    have HX := Lib.hid hxi
    clear hxi
    go_wp2_with fail
    go_roundw
    case rel =>
      refine ⟨i + 1, by have := HL.out; omega, by simp, ?_, rfl⟩
      rw [← HL.out, List.take_add_one, HX.out, HS.out]
      simp only [Option.toList_some, List.sum_append, List.sum_cons, List.sum_nil]
      congr 1
      omega
    case measure => simp only [toM]; omega
end Go.Proofs.YtdbnddmncbjobaaGreatDoor

/- Labels: they are different; the place of a word leads to its page. -/
namespace Go.Proofs.YtdbnddmncbjobaaGreatDoor

/-- a before b. -/
def lblt (a b : Pg) : Prop := a.num < b.num ∨ a.num = b.num ∧ a.suf < b.suf
theorem pagesT_one (ent ver : Int) : ∀ (ps : List (List Ln × List Ln)) (n s : Int), (pagesT ent ver true ps n s).2 = (n + ps.length, s) ∧ (pagesT ent ver true ps n s).1.length = ps.length ∧
    (∀ p ∈ (pagesT ent ver true ps n s).1, n < p.num ∧ p.num ≤ n + ps.length ∧ p.suf = s ∧ p.ent = ent ∧ p.ver = ver) ∧ (pagesT ent ver true ps n s).1.Pairwise lblt := by
  intro ps
  induction ps with
  | nil => intro n s; simp [pagesT]
  | cons p ps ih =>
    intro n s
    simp only [pagesT, if_true]
    obtain ⟨h1, h2, h3, h4⟩ := ih (n + 1) s
    refine ⟨?_, by simp [h2], fun x hx => ?_, ?_⟩
    · rw [h1]; simp only [List.length_cons]; congr 1; omega
    · rcases List.mem_cons.1 hx with rfl | hx
      · simp; omega
      · have := h3 x hx; simp only [List.length_cons]; omega
    · rw [List.pairwise_cons]
      exact ⟨fun x hx => .inl (by have := (h3 x hx).1; simp only; omega), h4⟩
theorem pagesT_more (ent ver : Int) : ∀ (ps : List (List Ln × List Ln)) (n s : Int), (pagesT ent ver false ps n s).2 = (n, s + ps.length) ∧ (pagesT ent ver false ps n s).1.length = ps.length ∧
    (∀ p ∈ (pagesT ent ver false ps n s).1, p.num = n ∧ s < p.suf ∧ p.suf ≤ s + ps.length ∧ p.ent = ent ∧ p.ver = ver) ∧ (pagesT ent ver false ps n s).1.Pairwise lblt := by
  intro ps
  induction ps with
  | nil => intro n s; simp [pagesT]
  | cons p ps ih =>
    intro n s
    simp only [pagesT, Bool.false_eq_true, if_false]
    obtain ⟨h1, h2, h3, h4⟩ := ih n (s + 1)
    refine ⟨?_, by simp [h2], fun x hx => ?_, ?_⟩
    · rw [h1]; simp only [List.length_cons]; congr 1; omega
    · rcases List.mem_cons.1 hx with rfl | hx
      · simp; omega
      · have := h3 x hx; simp only [List.length_cons]; omega
    · rw [List.pairwise_cons]
      exact ⟨fun x hx => .inr (by have := h3 x hx; simp only; omega), h4⟩
/-- The texts of a section, all with so many pages at most. -/
def PgsOk (m h : Int) (K : Nat) (ts : List Tx) : Prop := ∀ t ∈ ts, (textP t m h).2 ≠ [] ∧ (textP t m h).2.length ≤ K
theorem pagesV_more (m h ent : Int) (K : Nat) : ∀ (vs : List Int) (ts : List Tx) (n s : Int), PgsOk m h K ts →
    (pagesV m h ent vs ts false n s).2 = n ∧ (∀ p ∈ (pagesV m h ent vs ts false n s).1, p.num = n ∧ s < p.suf ∧ p.suf ≤ s + (K * ts.length : Nat)) ∧ (pagesV m h ent vs ts false n s).1.Pairwise lblt := by
  intro vs
  induction vs with
  | nil => intro ts n s _; simp [pagesV]
  | cons v vs ih =>
    intro ts n s hk
    cases ts with
    | nil => simp [pagesV]
    | cons t ts =>
      simp only [pagesV]
      obtain ⟨h1, _, h3, h4⟩ := pagesT_more ent v (textP t m h).2 n s
      rw [h1]
      have hK := (hk t (by simp)).2
      obtain ⟨g1, g2, g3⟩ := ih ts n (s + (textP t m h).2.length) fun x hx => hk x (by simp [hx])
      refine ⟨g1, fun p hp => ?_, ?_⟩
      · simp only [List.length_cons, Nat.mul_add, Nat.mul_one]
        rcases List.mem_append.1 hp with hp | hp
        · have := h3 p hp; omega
        · have := g2 p hp; omega
      · rw [List.pairwise_append]
        exact ⟨h4, g3, fun a ha b hb => .inr (by have := h3 a ha; have := g2 b hb; omega)⟩
theorem pagesV_one (m h ent : Int) (K : Nat) : ∀ (vs : List Int) (ts : List Tx) (n : Int), PgsOk m h K ts →
    n ≤ (pagesV m h ent vs ts true n 0).2 ∧ (pagesV m h ent vs ts true n 0).2 ≤ n + K ∧ (∀ p ∈ (pagesV m h ent vs ts true n 0).1, n < p.num ∧ p.num ≤ (pagesV m h ent vs ts true n 0).2 ∧ 0 ≤ p.suf ∧ p.suf ≤ (K * ts.length : Nat)) ∧ (pagesV m h ent vs ts true n 0).1.Pairwise lblt := by
  intro vs ts n hk
  cases vs with
  | nil => simp [pagesV]; omega
  | cons v vs =>
    cases ts with
    | nil => simp [pagesV]; omega
    | cons t ts =>
      simp only [pagesV]
      obtain ⟨h1, _, h3, h4⟩ := pagesT_one ent v (textP t m h).2 n 0
      rw [h1]
      have hK := hk t (by simp)
      have hp : 1 ≤ (textP t m h).2.length := List.length_pos_iff.2 hK.1
      obtain ⟨g1, g2, g3⟩ := pagesV_more m h ent K vs ts (n + (textP t m h).2.length) 0 fun x hx => hk x (by simp [hx])
      rw [g1]
      refine ⟨by omega, by omega, fun p hp => ?_, ?_⟩
      · simp only [List.length_cons, Nat.mul_add, Nat.mul_one]
        rcases List.mem_append.1 hp with hp | hp
        · have := h3 p hp; omega
        · have := g2 p hp; omega
      · rw [List.pairwise_append]
        exact ⟨h4, g3, fun a ha b hb => by
          have h5 := h3 a ha; have h6 := g2 b hb
          by_cases h7 : a.num = n + (textP t m h).2.length
          · exact .inr ⟨by omega, by omega⟩
          · exact .inl (by omega)⟩
theorem pagesS_ok (m h : Int) (K V : Nat) : ∀ (l : List Se) (n : Int), (∀ x ∈ l, PgsOk m h K x.texts ∧ x.texts.length ≤ V) →
    (∀ p ∈ pagesS m h l n, n < p.num ∧ p.num ≤ n + (K * l.length : Nat) ∧ 0 ≤ p.suf ∧ p.suf ≤ (K * V : Nat)) ∧ (pagesS m h l n).Pairwise lblt := by
  intro l
  induction l with
  | nil => intro n _; simp [pagesS]
  | cons x l ih =>
    intro n hk
    simp only [pagesS]
    obtain ⟨h1, h2, h3, h4⟩ := pagesV_one m h x.ent K x.vers x.texts n (hk x (by simp)).1
    obtain ⟨g1, g2⟩ := ih (pagesV m h x.ent x.vers x.texts true n 0).2 fun y hy => hk y (by simp [hy])
    have hV : K * x.texts.length ≤ K * V := Nat.mul_le_mul_left _ (hk x (by simp)).2
    refine ⟨fun p hp => ?_, ?_⟩
    · simp only [List.length_cons, Nat.mul_add, Nat.mul_one]
      rcases List.mem_append.1 hp with hp | hp
      · have := h3 p hp; omega
      · have := g1 p hp; omega
    · rw [List.pairwise_append]
      exact ⟨h4, g2, fun a ha b hb => .inl (by have := h3 a ha; have := g1 b hb; omega)⟩
/-- In a list whose labels grow, the page with the label of a page is that page. -/
theorem find_lab : ∀ (l : List Pg), l.Pairwise lblt → ∀ p ∈ l, l.find? (fun q => decide (q.num = p.num ∧ q.suf = p.suf)) = some p := by
  intro l
  induction l with
  | nil => intro _ p hp; simp at hp
  | cons a l ih =>
    intro hl p hp
    rw [List.pairwise_cons] at hl
    rcases List.mem_cons.1 hp with rfl | hp
    · rw [List.find?_cons_of_pos (by simp)]
    · rw [List.find?_cons_of_neg (by
        have := hl.1 p hp
        unfold lblt at this
        simp only [decide_eq_true_eq]; omega)]
      exact ih hl.2 p hp
end Go.Proofs.YtdbnddmncbjobaaGreatDoor

/- What is added, corrected, struck and frozen leaves the pages that were there. -/
namespace Go.Proofs.YtdbnddmncbjobaaGreatDoor

/-- A book whose labels are different and whose entries are. -/
structure OkK (b : Bk) : Prop where
  pg : ∀ x ∈ b.secs, ∃ K, PgsOk b.ms b.ht K x.texts
  vs : ∀ x ∈ b.secs, x.vers ≠ [] ∧ x.vers.length = x.texts.length
  ent : (b.secs.map (·.ent)).Nodup
theorem pgs_all {b : Bk} (h : ∀ x ∈ b.secs, ∃ K, PgsOk b.ms b.ht K x.texts) : ∃ K V, ∀ x ∈ b.secs, PgsOk b.ms b.ht K x.texts ∧ x.texts.length ≤ V := by
  suffices ∀ l : List Se, (∀ x ∈ l, ∃ K, PgsOk b.ms b.ht K x.texts) → ∃ K V, ∀ x ∈ l, PgsOk b.ms b.ht K x.texts ∧ x.texts.length ≤ V from this _ h
  intro l
  induction l with
  | nil => intro _; exact ⟨0, 0, fun x hx => by simp at hx⟩
  | cons a l ih =>
    intro hl
    obtain ⟨K, V, h1⟩ := ih fun x hx => hl x (by simp [hx])
    obtain ⟨K', h2⟩ := hl a (by simp)
    refine ⟨max K K', max V a.texts.length, fun x hx => ?_⟩
    rcases List.mem_cons.1 hx with rfl | hx
    · exact ⟨fun t ht => ⟨(h2 t ht).1, by have := (h2 t ht).2; omega⟩, by omega⟩
    · exact ⟨fun t ht => ⟨((h1 x hx).1 t ht).1, by have := ((h1 x hx).1 t ht).2; omega⟩, by have := (h1 x hx).2; omega⟩
theorem sorted_of {b : Bk} (h : ∀ x ∈ b.secs, ∃ K, PgsOk b.ms b.ht K x.texts) : (pagesB b).Pairwise lblt := by
  obtain ⟨K, V, hk⟩ := pgs_all h
  exact (pagesS_ok b.ms b.ht K V b.secs 0 hk).2
theorem pagesS_ends (m h : Int) : ∀ (l : List Se) (n : Int), ∃ n', ∀ r, pagesS m h (l ++ r) n = pagesS m h l n ++ pagesS m h r n' := by
  intro l
  induction l with
  | nil => intro n; exact ⟨n, fun r => rfl⟩
  | cons x l ih =>
    intro n
    obtain ⟨n', h'⟩ := ih (pagesV m h x.ent x.vers x.texts true n 0).2
    exact ⟨n', fun r => by simp only [List.cons_append, pagesS, h', List.append_assoc]⟩
theorem whereG_left (e v w : Int) (A R : List Pg) (x : Int × Int × Nat) (h : whereG e v w A = some x) : whereG e v w (A ++ R) = some x := by
  induction A with
  | nil => simp [whereG] at h
  | cons p A ih =>
    simp only [List.cons_append, whereG] at h ⊢
    split at h
    · next hc => rw [if_pos hc]; exact ih h
    · next hc =>
      rw [if_neg hc]
      split at h
      · exact h
      · exact ih h
/-- What was cited stays: the pages of b are pages of b', and the words of a version of an entry stand where they stood. -/
structure Keeps (b b' : Bk) (e v : Int) : Prop where
  page : ∀ n s p, pageP b n s = some p → pageP b' n s = some p
  place : ∀ w x, whereP b e v w = some x → whereP b' e v w = some x
  ok : OkK b'
theorem Keeps.refl {b : Bk} (h : OkK b) (e v : Int) : Keeps b b e v := ⟨fun _ _ _ h => h, fun _ _ h => h, h⟩
theorem Keeps.trans {b c d : Bk} {e v : Int} (h : Keeps b c e v) (k : Keeps c d e v) : Keeps b d e v := ⟨fun n s p hp => k.page n s p (h.page n s p hp), fun w x hw => k.place w x (h.place w x hw), k.ok⟩
theorem page_of_mem {b : Bk} (h : OkK b) {p : Pg} (hp : p ∈ pagesB b) : pageP b p.num p.suf = some p := find_lab _ (sorted_of h.pg) p hp
theorem page_mem {b : Bk} {n s : Int} {p : Pg} (h : pageP b n s = some p) : p ∈ pagesB b ∧ p.num = n ∧ p.suf = s := by
  unfold pageP at h
  have h1 := List.find?_some h
  simp only [decide_eq_true_eq] at h1
  exact ⟨List.mem_of_find?_eq_some h, h1⟩
theorem keeps_of {b b' : Bk} (h' : OkK b') {e v : Int} (hsub : ∀ p ∈ pagesB b, p ∈ pagesB b') (hw : ∀ w x, whereP b e v w = some x → whereP b' e v w = some x) : Keeps b b' e v :=
  ⟨fun n s p hp => by
    obtain ⟨h1, rfl, rfl⟩ := page_mem hp
    exact page_of_mem h' (hsub p h1), hw, h'⟩
/-- A further section. -/
theorem keeps_add {b : Bk} (h : OkK b) (e v : Int) (x : Se) (hx : ∃ K, PgsOk b.ms b.ht K x.texts) (hv : x.vers ≠ [] ∧ x.vers.length = x.texts.length) (hn : ∀ y ∈ b.secs, y.ent ≠ x.ent) : Keeps b { b with secs := b.secs ++ [x] } e v := by
  obtain ⟨n', hp⟩ := pagesS_ends b.ms b.ht b.secs 0
  have hp := hp [x]
  refine keeps_of ⟨fun y hy => ?_, fun y hy => ?_, ?_⟩ (fun p hp' => ?_) (fun w y hw => ?_)
  · simp only [List.mem_append, List.mem_singleton] at hy
    rcases hy with hy | rfl
    · exact h.pg y hy
    · exact hx
  · simp only [List.mem_append, List.mem_singleton] at hy
    rcases hy with hy | rfl
    · exact h.vs y hy
    · exact hv
  · simp only [List.map_append, List.map_cons, List.map_nil]
    rw [List.nodup_append]
    refine ⟨h.ent, by simp, fun a ha b' hb => ?_⟩
    obtain ⟨y, hy, rfl⟩ := List.mem_map.1 ha
    simp only [List.mem_singleton] at hb
    subst hb
    exact hn y hy
  · show p ∈ pagesS b.ms b.ht (b.secs ++ [x]) 0
    rw [hp]; exact List.mem_append_left _ hp'
  · show whereG e v w (pagesS b.ms b.ht (b.secs ++ [x]) 0) = _
    rw [hp]; exact whereG_left e v w _ _ y hw
end Go.Proofs.YtdbnddmncbjobaaGreatDoor

/- Generated books are regular. -/
namespace Go.Proofs.YtdbnddmncbjobaaGreatDoor

/-- A book whose texts are generated ones: at most N sections, at most V texts in each. -/
structure OkB (b : Bk) (N V : Nat) : Prop where
  m0 : 500 ≤ b.ms
  m1 : b.ms ≤ 2000
  h0 : 4 ≤ b.ht
  h1 : b.ht ≤ 100
  n : b.secs.length ≤ N
  vs : ∀ x ∈ b.secs, x.vers.length = x.texts.length ∧ x.vers ≠ [] ∧ x.texts.length ≤ V
  tx : ∀ x ∈ b.secs, ∀ t ∈ x.texts, OkT t
  ent : (b.secs.map (·.ent)).Nodup
theorem pagesT_len (ent v : Int) (f : Bool) : ∀ (ps : List (List Ln × List Ln)) (n s : Int), (pagesT ent v f ps n s).1.length = ps.length := by
  intro ps
  induction ps with
  | nil => intro n s; rfl
  | cons p ps ih => intro n s; simp [pagesT, ih]
theorem pagesV_len (m h ent : Int) (K : Nat) : ∀ (vs : List Int) (ts : List Tx) (f : Bool) (n s : Int), (∀ t ∈ ts, (textP t m h).2.length ≤ K) → (pagesV m h ent vs ts f n s).1.length ≤ K * ts.length := by
  intro vs
  induction vs with
  | nil => intro ts f n s _; simp [pagesV]
  | cons v vs ih =>
    intro ts f n s hk
    cases ts with
    | nil => simp [pagesV]
    | cons t ts =>
      simp only [pagesV, List.length_append, pagesT_len, List.length_cons, Nat.mul_add, Nat.mul_one]
      have h1 := hk t (by simp)
      have h2 := ih ts false (pagesT ent v f (textP t m h).2 n s).2.1 (pagesT ent v f (textP t m h).2 n s).2.2 fun t ht => hk t (by simp [ht])
      omega
theorem pagesS_len (m h : Int) (K V : Nat) : ∀ (l : List Se) (n : Int), (∀ x ∈ l, (∀ t ∈ x.texts, (textP t m h).2.length ≤ K) ∧ x.texts.length ≤ V) → (pagesS m h l n).length ≤ K * V * l.length := by
  intro l
  induction l with
  | nil => intro n _; simp [pagesS]
  | cons x l ih =>
    intro n hk
    simp only [pagesS, List.length_append, List.length_cons, Nat.mul_add, Nat.mul_one]
    have h1 := pagesV_len m h x.ent K x.vers x.texts true n 0 (hk x (by simp)).1
    have h2 := ih (pagesV m h x.ent x.vers x.texts true n 0).2 fun y hy => hk y (by simp [hy])
    have h3 : K * x.texts.length ≤ K * V := Nat.mul_le_mul_left _ (hk x (by simp)).2
    omega
theorem OkT.small {t : Tx} (h : OkT t) : TxS t :=
  ⟨by have := h.np; omega, by have := h.nn; omega, fun p hp => by
    rcases List.mem_append.1 hp with hp | hp
    · have := (h.par.len p hp).2; omega
    · have := (h.len p hp).2; omega⟩
theorem OkB.bkS {b : Bk} {N V : Nat} (h : OkB b N V) (hN : N ≤ 1000000) (hV : V ≤ 1000000) : BkS b.secs :=
  ⟨Nat.le_trans h.n hN, fun x hx => by have := h.vs x hx; omega, fun x hx => by have := h.vs x hx; omega, fun x hx t ht => (h.tx x hx t ht).small⟩
theorem OkB.pgs {b : Bk} {N V : Nat} (h : OkB b N V) : ∀ x ∈ b.secs, PgsOk b.ms b.ht 200 x.texts ∧ x.texts.length ≤ V := fun x hx =>
  ⟨fun t ht => by have := textP_ok (h.tx x hx t ht) h.m0 h.m1 h.h0 h.h1; exact ⟨this.2.1, this.2.2.1⟩, (h.vs x hx).2.2⟩
theorem OkB.np {b : Bk} {N V : Nat} (h : OkB b N V) : (pagesB b).length ≤ 200 * V * N :=
  Nat.le_trans (pagesS_len b.ms b.ht 200 V b.secs 0 fun x hx => ⟨fun t ht => ((h.pgs x hx).1 t ht).2, (h.pgs x hx).2⟩) (Nat.mul_le_mul_left _ h.n)
theorem OkB.bkI {b : Bk} {N V : Nat} (h : OkB b N V) (hN : N ≤ 1000) (hV : 200 * V * N ≤ 1000000) (hV' : V ≤ 1000) : BkI b :=
  ⟨h.bkS (by omega) (by omega), h.m0, h.m1, ⟨by have := h.h0; omega, h.h1⟩, fun x hx => (h.vs x hx).1, fun x hx t ht => txP_of (h.tx x hx t ht) h.m0 h.m1 h.h0 h.h1, Nat.le_trans h.np hV, fun x hx t ht p hp => by
    have h1 := (textP_ok (h.tx x hx t ht) h.m0 h.m1 h.h0 h.h1).2.2.2 p hp
    have := h.h1
    omega⟩
theorem OkB.okK {b : Bk} {N V : Nat} (h : OkB b N V) : OkK b :=
  ⟨fun x hx => ⟨200, (h.pgs x hx).1⟩, fun x hx => ⟨(h.vs x hx).2.1, (h.vs x hx).1⟩, h.ent⟩
end Go.Proofs.YtdbnddmncbjobaaGreatDoor

/- slices.Index and Contains of numbers, glyph.Count, book.within, book.wrong: walked. -/
namespace Go.Proofs.YtdbnddmncbjobaaGreatDoor
open Go Go.RowKit

end Go.Proofs.YtdbnddmncbjobaaGreatDoor

/- book.Where: walked. -/
namespace Go.Proofs.YtdbnddmncbjobaaGreatDoor
open Go Go.RowKit Go.Shelf
attribute [local go_sem] Oper.semAt_some

variable {β : Type}
def WherePost (w : World) (b : Bk) (e v wd : Int) (z : Ending) (w' : World) : Prop :=
  (whereP b e v wd = none ∧ z = .returned (.tuple #[.agg #[.int .i64 0, .int .i64 0], .int .i64 0, .bool false]) ∧ Ext w w') ∨
  ∃ (n s : Int) (i : Nat), whereP b e v wd = some (n, s, i) ∧ z = .returned (.tuple #[.agg #[.int .i64 n, .int .i64 s], .int .i64 i, .bool true]) ∧ Ext w w'
/-- Between two rounds: the word has not been found. -/
structure WhI (w : World) (e v wd : Int) (pre : List PgV) (q : Nat → Prop) (W : World) : Prop where
  x : Ext w W
  s : w.heap.size + 10 ≤ W.heap.size
  q : ∀ j, q j → j < w.heap.size ∨ j = w.heap.size + 7 ∨ w.heap.size + 10 ≤ j
  a1 : W.heap[w.heap.size + 1]? = some (.cells #[.int .i64 e] 3 (0, 0))
  a2 : W.heap[w.heap.size + 2]? = some (.cells #[.int .i64 v] 3 (0, 0))
  a3 : W.heap[w.heap.size + 3]? = some (.cells #[.int .i64 wd] 3 (0, 0))
  r4 : W.heap[w.heap.size + 4]? = some (.cells #[.int .i64 0, .int .i64 0] 64 (0, 0))
  r5 : W.heap[w.heap.size + 5]? = some (.cells #[.int .i64 0] 3 (0, 0))
  r6 : W.heap[w.heap.size + 6]? = some (.cells #[.bool false] 4 (0, 0))
  n : whereG e v wd (pre.map (·.1)) = none
/-- It has been. -/
structure WhX (w : World) (e v wd : Int) (c : Code) (pre : List PgV) (q : Nat → Prop) (W : World) : Prop where
  c : c = .ret
  x : Ext w W
  s : w.heap.size + 10 ≤ W.heap.size
  p : ∃ (n s : Int) (i : Nat), (∀ R, whereG e v wd (pre.map (·.1) ++ R) = some (n, s, i)) ∧ W.heap[w.heap.size + 4]? = some (.cells #[.int .i64 n, .int .i64 s] 64 (0, 0)) ∧ W.heap[w.heap.size + 5]? = some (.cells #[.int .i64 i] 3 (0, 0))
  b : W.heap[w.heap.size + 6]? = some (.cells #[.bool true] 4 (0, 0))
theorem WhI.ab {w wl : World} {e v wd : Int} (hs : wl.heap.size = w.heap.size + 8) : AbMv (wl.heap.size + 2) (WhI w e v wd) := by
  intro s Q Q' A B h hm hg
  have hsz := h.s
  refine ⟨hm.ext w (by omega) h.x, Nat.le_trans h.s hm.size, fun j hj => ?_, hm.blk (by omega) h.a1, hm.blk (by omega) h.a2, hm.blk (by omega) h.a3, hm.blk (by omega) h.r4, hm.blk (by omega) h.r5, hm.blk (by omega) h.r6, h.n⟩
  rcases hg j hj with h1 | h1 | h1
  · exact h.q j h1
  · omega
  · omega
theorem WhI.put {w wl : World} {e v wd : Int} (hs : wl.heap.size = w.heap.size + 8) {s : List PgV} {q : Nat → Prop} {W : World} {o : Obj} (h : WhI w e v wd s q W) : WhI w e v wd s q (W.putObj (wl.heap.size + 1) o) :=
  ⟨h.x.putObj (by omega) o, by simpa using h.s, h.q, (World.putObj_heap_other (by omega)).trans h.a1, (World.putObj_heap_other (by omega)).trans h.a2, (World.putObj_heap_other (by omega)).trans h.a3, (World.putObj_heap_other (by omega)).trans h.r4, (World.putObj_heap_other (by omega)).trans h.r5, (World.putObj_heap_other (by omega)).trans h.r6, h.n⟩
theorem WhX.ab {w wl : World} {e v wd : Int} (hs : wl.heap.size = w.heap.size + 8) (c : Code) : AbMv (wl.heap.size + 2) (WhX w e v wd c) := by
  intro s Q Q' A B h hm hg
  obtain ⟨n, k, i, h1, h2, h3⟩ := h.p
  have hsz := h.s
  exact ⟨h.c, hm.ext w (by omega) h.x, Nat.le_trans h.s hm.size, ⟨n, k, i, h1, hm.blk (by omega) h2, hm.blk (by omega) h3⟩, hm.blk (by omega) h.b⟩
theorem WhX.put {w wl : World} {e v wd : Int} (hs : wl.heap.size = w.heap.size + 8) {c : Code} {s : List PgV} {q : Nat → Prop} {W : World} {k : Nat} {o : Obj} (hk : k = wl.heap.size + 1 ∨ k = wl.heap.size) (h : WhX w e v wd c s q W) : WhX w e v wd c s q (W.putObj k o) := by
  obtain ⟨n, m, i, h1, h2, h3⟩ := h.p
  exact ⟨h.c, h.x.putObj (by omega) o, by simpa using h.s, ⟨n, m, i, h1, (World.putObj_heap_other (by omega)).trans h2, (World.putObj_heap_other (by omega)).trans h3⟩, (World.putObj_heap_other (by omega)).trans h.b⟩
end Go.Proofs.YtdbnddmncbjobaaGreatDoor

/- slices.AppendSeq at book.all's iterator, slices.Collect, book.Pages: walked. -/
namespace Go.Proofs.YtdbnddmncbjobaaGreatDoor
open Go Go.RowKit Go.Shelf
attribute [local go_sem] Oper.semAt_some

def ClPost (w : World) (b : Bk) (e : Ending) (w' : World) : Prop := ∃ A n c, e = .returned (.slice A n c) ∧ n ≤ c ∧ n ≤ 1000000 ∧ kPg.row w' (fun j => w.heap.size ≤ j) A n (pagesB b) ∧ Ext w w'
/-- Between two rounds: the pages that have come are in a row of the call's own. -/
structure ClI (w : World) (D z : Nat) (pre : List PgV) (q : Nat → Prop) (W : World) : Prop where
  x : Ext w W
  s : D + 2 ≤ W.heap.size
  hq : ∀ j, q j → j ≠ z ∧ j ≠ D ∧ j ≠ D + 1
  v : ∃ A n c, n = pre.length ∧ n ≤ c ∧ W.heap[z]? = some (.cells #[.slice A n c] 106 (0, 0)) ∧ kPg.own 84 W (D + 3) (fun j => D + 3 ≤ j) (.slice A n c) (pre.map (·.1)) ∧ ∀ j, (Value.slice A n c).ownBlock = some j → ¬ q j
theorem ClI.ab {w wl : World} {z : Nat} (hwz : w.heap.size ≤ z) (hz : z < wl.heap.size) : AbMv (wl.heap.size + 2) (ClI w wl.heap.size z) := by
  intro s Q Q' A B h hm hg
  obtain ⟨Ad, n, c, h1, h2, h3, h4, h5⟩ := h.v
  have hlt := Lay.own_lt h4
  have hA := h.s
  refine ⟨hm.ext w (by omega) h.x, Nat.le_trans h.s hm.size, fun j hj => ?_, Ad, n, c, h1, h2, hm.blk (by omega) h3, Lay.own_keep h4 hm.size fun j hj hl => hm.keep j ?_ hl, fun j hj hq => ?_⟩
  · rcases hg j hj with h1 | h1 | h1
    · exact h.hq j h1
    · omega
    · omega
  · rcases hj with hj | hj
    · omega
    · have := hlt j hj; omega
  · have := hlt j hj
    rcases hg j hq with h6 | h6 | h6
    · exact h5 j hj h6
    · omega
    · omega
theorem ClI.put {w wl : World} {z : Nat} (hwz : w.heap.size ≤ z) (hz : z < wl.heap.size) {s : List PgV} {q : Nat → Prop} {W : World} {k : Nat} {o : Obj} (hk : k = wl.heap.size + 1 ∨ k = wl.heap.size) (h : ClI w wl.heap.size z s q W) : ClI w wl.heap.size z s q (W.putObj k o) := by
  obtain ⟨Ad, n, c, h1, h2, h3, h4, h5⟩ := h.v
  have hlt := Lay.own_lt h4
  refine ⟨h.x.putObj (by omega) o, by simpa using h.s, h.hq, Ad, n, c, h1, h2, (World.putObj_heap_other (by omega)).trans h3, Lay.own_keep h4 (by simp) fun j hj _ => World.putObj_heap_other ?_, h5⟩
  rcases hj with hj | hj
  · omega
  · have := hlt j hj; omega
end Go.Proofs.YtdbnddmncbjobaaGreatDoor

/- book.wrong, book.fits: walked. -/
namespace Go.Proofs.YtdbnddmncbjobaaGreatDoor
open Go Go.RowKit

theorem OkT.wn {t : Tx} (h : OkT t) : 1 ≤ wordsN (t.paras ++ t.notes) ∧ wordsN (t.paras ++ t.notes) ≤ 1000000 := by
  have hle : ∀ (B : Nat) (l : List (List Wd)), (∀ p ∈ l, p.length ≤ B) → wordsN l ≤ B * l.length := by
    intro B l
    induction l with
    | nil => intro _; simp [wordsN]
    | cons p l ih =>
      intro hl
      have h1 := hl p (by simp)
      have h2 := ih fun q hq => hl q (by simp [hq])
      simp only [wordsN, List.map_cons, List.sum_cons, List.length_cons, Nat.mul_succ] at h2 ⊢
      omega
  have hap : wordsN (t.paras ++ t.notes) = wordsN t.paras + wordsN t.notes := by simp [wordsN]
  have h1 := hle 40 t.paras fun p hp => (h.par.len p hp).2
  have h2 := hle 12 t.notes fun p hp => (h.len p hp).2
  have h3 := h.np
  have h4 := h.nn
  refine ⟨?_, by omega⟩
  cases hp : t.paras with
  | nil => rw [hp] at h3; simp at h3
  | cons p r =>
    have := (h.par.len p (by rw [hp]; simp)).1
    simp only [wordsN, List.cons_append, List.map_cons, List.sum_cons]
    omega
end Go.Proofs.YtdbnddmncbjobaaGreatDoor

/- cite.Of: walked. -/
namespace Go.Proofs.YtdbnddmncbjobaaGreatDoor
open Go Go.RowKit

def frzIn (b : Bk) (e : Int) : Bool := b.secs.any fun x => x.ent == e && x.fz
def ofP (b : Bk) (br e v wd : Int) : Option (Int × Int × Nat) := if br < 0 ∨ 256 ≤ br ∨ frzIn b e = false then none else whereP b e v wd
/-- The result's cells. -/
structure CiR (z : Nat) (W : World) : Prop where
  c0 : W.cell? ⟨z, 0, none⟩ = some (.int .i64 0)
  c1 : W.cell? ⟨z, 1, none⟩ = some (.int .i64 0)
  c2 : W.cell? ⟨z, 2, none⟩ = some (.int .i64 0)
  c3 : W.cell? ⟨z, 3, none⟩ = some (.int .i64 0)
  f0 : W.frozen? ⟨z, 0, none⟩ = false
  f1 : W.frozen? ⟨z, 1, none⟩ = false
  f2 : W.frozen? ⟨z, 2, none⟩ = false
  f3 : W.frozen? ⟨z, 3, none⟩ = false
  lt : z < W.heap.size
  ne : ¬ z = W.heap.size
theorem CiR.of {z : Nat} {W : World} (h : W.heap[z]? = some (.cells #[.int .i64 0, .int .i64 0, .int .i64 0, .int .i64 0] 69 (0, 0))) : CiR z W :=
  ⟨cell_of h (i := 0) rfl, cell_of h (i := 1) rfl, cell_of h (i := 2) rfl, cell_of h (i := 3) rfl, frozen_of h 0, frozen_of h 1, frozen_of h 2, frozen_of h 3, lt_of_block h, by have := lt_of_block h; omega⟩
theorem ci_ext {a W : World} (h : Ext a W) {z : Nat} (hz : a.heap.size ≤ z) (v0 v1 v2 v3 : Value) : Ext a ((((W.setCell ⟨z, 0, none⟩ v0).setCell ⟨z, 1, none⟩ v1).setCell ⟨z, 2, none⟩ v2).setCell ⟨z, 3, none⟩ v3) :=
  (((h.setCell (p := ⟨z, 0, none⟩) hz v0).setCell (p := ⟨z, 1, none⟩) hz v1).setCell (p := ⟨z, 2, none⟩) hz v2).setCell (p := ⟨z, 3, none⟩) hz v3
end Go.Proofs.YtdbnddmncbjobaaGreatDoor

/- cite.Find: walked. -/
namespace Go.Proofs.YtdbnddmncbjobaaGreatDoor
open Go Go.RowKit

/-- The page and the line of a citation. -/
def citP (b : Bk) (n s line : Int) : Option (Pg × Ln) := (pageP b n s).bind fun p => if line < 1 then none else ((p.body ++ p.nts)[(line - 1).toNat]?).map fun x => (p, x)
def FindPost (w : World) (b : Bk) (n s line : Int) (z : Ending) (w' : World) : Prop :=
  Ext w w' ∧ ((citP b n s line = none ∧ z = .returned (.tuple #[.agg #[.int .i64 0, .int .i64 0, .int .i64 0, .int .i64 0, .slice none 0 0, .slice none 0 0], .agg #[.int .i64 0, .int .i64 0, .slice none 0 0, .slice none 0 0], .bool false])) ∨
  ∃ (p : Pg) (x : Ln) (A7 : Option Addr) (n7 c7 : Nat) (A8 : Option Addr) (n8 c8 : Nat) (A1 : Option Addr) (n1 c1 : Nat) (A2 : Option Addr) (n2 c2 : Nat), citP b n s line = some (p, x) ∧
    z = .returned (.tuple #[.agg #[.int .i64 p.num, .int .i64 p.suf, .int .i64 p.ent, .int .i64 p.ver, .slice A7 n7 c7, .slice A8 n8 c8], .agg #[.int .i64 x.fr, .int .i64 x.un, .slice A1 n1 c1, .slice A2 n2 c2], .bool true]) ∧
    n7 ≤ c7 ∧ n8 ≤ c8 ∧ kLn.row w' (fun j => w.heap.size ≤ j) A7 n7 p.body ∧ kLn.row w' (fun j => w.heap.size ≤ j) A8 n8 p.nts ∧ kInt.row w' (fun j => w.heap.size ≤ j) A1 n1 x.gaps ∧ kInt.row w' (fun j => w.heap.size ≤ j) A2 n2 x.nts ∧ n1 ≤ c1 ∧ n2 ≤ c2)
/-- The results' cells. -/
structure FiR (z2 z3 : Nat) (W : World) : Prop where
  h2 : W.heap[z2]? = some (.cells #[.int .i64 0, .int .i64 0, .int .i64 0, .int .i64 0, .slice none 0 0, .slice none 0 0] 84 (0, 0))
  h3 : W.heap[z3]? = some (.cells #[.int .i64 0, .int .i64 0, .slice none 0 0, .slice none 0 0] 86 (0, 0))
theorem FiR.ext {z2 z3 : Nat} {W W' : World} (h : FiR z2 z3 W) (hx : Ext W W') : FiR z2 z3 W' := ⟨(hx.block _ (lt_of_block h.h2)).trans h.h2, (hx.block _ (lt_of_block h.h3)).trans h.h3⟩
/-- A page and a line are stored. -/
structure St10 (W Y : World) (z2 z3 : Nat) (cs ds : Array Value) : Prop where
  size : Y.heap.size = W.heap.size
  keep : ∀ j, j ≠ z2 → j ≠ z3 → Y.heap[j]? = W.heap[j]?
  ext : ∀ a : World, a.heap.size ≤ z2 → a.heap.size ≤ z3 → Ext a W → Ext a Y
  h2 : Y.heap[z2]? = some (.cells cs 84 (0, 0))
  h3 : Y.heap[z3]? = some (.cells ds 86 (0, 0))
theorem st10 {W : World} {z2 z3 : Nat} (hne : z2 ≠ z3) {a0 a1 a2 a3 a4 a5 x0 x1 x2 x3 : Value} (h2 : W.heap[z2]? = some (.cells #[a0, a1, a2, a3, a4, a5] 84 (0, 0))) (h3 : W.heap[z3]? = some (.cells #[x0, x1, x2, x3] 86 (0, 0))) (v0 v1 v2 v3 v4 v5 u0 u1 u2 u3 : Value) :
    St10 W ((((((((((W.setCell ⟨z2, 0, none⟩ v0).setCell ⟨z2, 1, none⟩ v1).setCell ⟨z2, 2, none⟩ v2).setCell ⟨z2, 3, none⟩ v3).setCell ⟨z2, 4, none⟩ v4).setCell ⟨z2, 5, none⟩ v5).setCell ⟨z3, 0, none⟩ u0).setCell ⟨z3, 1, none⟩ u1).setCell ⟨z3, 2, none⟩ u2).setCell ⟨z3, 3, none⟩ u3) z2 z3 #[v0, v1, v2, v3, v4, v5] #[u0, u1, u2, u3] := by
  have h9 : ((((((W.setCell ⟨z2, 0, none⟩ v0).setCell ⟨z2, 1, none⟩ v1).setCell ⟨z2, 2, none⟩ v2).setCell ⟨z2, 3, none⟩ v3).setCell ⟨z2, 4, none⟩ v4).setCell ⟨z2, 5, none⟩ v5).heap[z3]? = some (.cells #[x0, x1, x2, x3] 86 (0, 0)) := by
    rw [heap_setCell_other _ ⟨z2, 5, none⟩ z3 _ hne.symm, heap_setCell_other _ ⟨z2, 4, none⟩ z3 _ hne.symm, heap_setCell_other _ ⟨z2, 3, none⟩ z3 _ hne.symm, heap_setCell_other _ ⟨z2, 2, none⟩ z3 _ hne.symm, heap_setCell_other _ ⟨z2, 1, none⟩ z3 _ hne.symm, heap_setCell_other _ ⟨z2, 0, none⟩ z3 _ hne.symm]
    exact h3
  refine ⟨by simp, fun j k2 k3 => ?_, fun a l2 l3 hx => ?_, ?_, ?_⟩
  · rw [heap_setCell_other _ ⟨z3, 3, none⟩ j _ k3, heap_setCell_other _ ⟨z3, 2, none⟩ j _ k3, heap_setCell_other _ ⟨z3, 1, none⟩ j _ k3, heap_setCell_other _ ⟨z3, 0, none⟩ j _ k3, heap_setCell_other _ ⟨z2, 5, none⟩ j _ k2, heap_setCell_other _ ⟨z2, 4, none⟩ j _ k2, heap_setCell_other _ ⟨z2, 3, none⟩ j _ k2, heap_setCell_other _ ⟨z2, 2, none⟩ j _ k2, heap_setCell_other _ ⟨z2, 1, none⟩ j _ k2, heap_setCell_other _ ⟨z2, 0, none⟩ j _ k2]
  · exact ((((((((((hx.setCell (p := ⟨z2, 0, none⟩) l2 _).setCell (p := ⟨z2, 1, none⟩) l2 _).setCell (p := ⟨z2, 2, none⟩) l2 _).setCell (p := ⟨z2, 3, none⟩) l2 _).setCell (p := ⟨z2, 4, none⟩) l2 _).setCell (p := ⟨z2, 5, none⟩) l2 _).setCell (p := ⟨z3, 0, none⟩) l3 _).setCell (p := ⟨z3, 1, none⟩) l3 _).setCell (p := ⟨z3, 2, none⟩) l3 _).setCell (p := ⟨z3, 3, none⟩) l3 _)
  · rw [heap_setCell_other _ ⟨z3, 3, none⟩ z2 _ hne, heap_setCell_other _ ⟨z3, 2, none⟩ z2 _ hne, heap_setCell_other _ ⟨z3, 1, none⟩ z2 _ hne, heap_setCell_other _ ⟨z3, 0, none⟩ z2 _ hne]
    exact (heap_setCell_same _ z2 5 _ 84 _ (heap_setCell_same _ z2 4 _ 84 _ (heap_setCell_same _ z2 3 _ 84 _ (heap_setCell_same _ z2 2 _ 84 _ (heap_setCell_same _ z2 1 _ 84 _ (heap_setCell_same _ z2 0 _ 84 _ h2))))))
  · exact (heap_setCell_same _ z3 3 _ 86 _ (heap_setCell_same _ z3 2 _ 86 _ (heap_setCell_same _ z3 1 _ 86 _ (heap_setCell_same _ z3 0 _ 86 _ h9))))
theorem pagesT_ln (ent ver : Int) (first : Bool) (B : Nat) : ∀ (ps : List (List Ln × List Ln)) (n s : Int), (∀ q ∈ ps, q.1.length ≤ B ∧ q.2.length ≤ B) → ∀ p ∈ (pagesT ent ver first ps n s).1, p.body.length ≤ B ∧ p.nts.length ≤ B := by
  intro ps
  induction ps with
  | nil => intro n s _ p hp; simp [pagesT] at hp
  | cons a ps ih =>
    intro n s h p hp
    simp only [pagesT] at hp
    rcases List.mem_cons.1 hp with rfl | hp
    · exact h a (by simp)
    · exact ih _ _ (fun q hq => h q (by simp [hq])) p hp
theorem pagesV_ln (m h ent : Int) (B : Nat) : ∀ (vs : List Int) (ts : List Tx) (f : Bool) (n s : Int), (∀ t ∈ ts, ∀ q ∈ (textP t m h).2, q.1.length ≤ B ∧ q.2.length ≤ B) → ∀ p ∈ (pagesV m h ent vs ts f n s).1, p.body.length ≤ B ∧ p.nts.length ≤ B := by
  intro vs
  induction vs with
  | nil => intro ts f n s _ p hp; simp [pagesV] at hp
  | cons v vs ih =>
    intro ts f n s hk p hp
    cases ts with
    | nil => simp [pagesV] at hp
    | cons t ts =>
      simp only [pagesV] at hp
      rcases List.mem_append.1 hp with hp | hp
      · exact pagesT_ln _ _ _ B _ _ _ (hk t (by simp)) p hp
      · exact ih ts _ _ _ (fun t ht => hk t (by simp [ht])) p hp
theorem pagesS_ln (m h : Int) (B : Nat) : ∀ (l : List Se) (n : Int), (∀ x ∈ l, ∀ t ∈ x.texts, ∀ q ∈ (textP t m h).2, q.1.length ≤ B ∧ q.2.length ≤ B) → ∀ p ∈ pagesS m h l n, p.body.length ≤ B ∧ p.nts.length ≤ B := by
  intro l
  induction l with
  | nil => intro n _ p hp; simp [pagesS] at hp
  | cons x l ih =>
    intro n hk p hp
    simp only [pagesS] at hp
    rcases List.mem_append.1 hp with hp | hp
    · exact pagesV_ln _ _ _ B _ _ _ _ _ (hk x (by simp)) p hp
    · exact ih _ (fun y hy => hk y (by simp [hy])) p hp
theorem page_ln {b : Bk} (hb : BkI b) {n s : Int} {p : Pg} (h : pageP b n s = some p) : p.body.length ≤ 1000 ∧ p.nts.length ≤ 1000 :=
  pagesS_ln b.ms b.ht 1000 b.secs 0 hb.ln p (List.mem_of_find?_eq_some h)
set_option maxHeartbeats 4000000 in
set_option maxRecDepth 100000 in
theorem find_cite (P : Nat → Prop) (w : World) (b : Bk) (br n s line : Int) (A : Option Addr) (N c : Nat) (hb : BkI b) (hr : kSe.row w P A N b.secs) (hL : EnvW w) (hl0 : -9223372036854775807 ≤ line) (hl1 : line ≤ 9223372036854775807) :
    Calls Tryz.prog 44 #[.agg #[.int .i64 b.ms, .int .i64 b.ht, .slice A N c], .agg #[.int .i64 br, .int .i64 n, .int .i64 s, .int .i64 line]] w (FindPost w b n s line) := by
  have HPG := Lib.hid (fun (X : World) (hX : Ext w X) => page_any P X b n s A N c hb (Lay.row_ext hr hX) (hL.ext hX))
  have HPL := Lib.hid (fun p (hp : pageP b n s = some p) => page_ln hb hp)
  clear hb hr hL
  go_enter Tryz.func44, Tryz.ntmps44
  go_upto_region 1 with (fail)
  obtain ⟨w1, hw1⟩ : ∃ w1, (((w.alloc (.cells #[.int .i64 b.ms, .int .i64 b.ht, .slice A N c] 27)).alloc (.cells #[.int .i64 br, .int .i64 n, .int .i64 s, .int .i64 line] 69)).alloc (.cells #[.int .i64 0, .int .i64 0, .int .i64 0, .int .i64 0, .slice none 0 0, .slice none 0 0] 84)).alloc (.cells #[.int .i64 0, .int .i64 0, .slice none 0 0, .slice none 0 0] 86) = w1 := ⟨_, rfl⟩
  obtain ⟨z0, hz0⟩ : ∃ z, w.heap.size = z := ⟨_, rfl⟩
  have hx1 : Ext w w1 := by rw [← hw1]; exact ((((Ext.refl w).alloc _).alloc _).alloc _).alloc _
  have h0 : w1.heap[z0]? = some (.cells #[.int .i64 b.ms, .int .i64 b.ht, .slice A N c] 27 (0, 0)) := by rw [← hw1, ← hz0, heap_alloc_old _ _ _ (by simp <;> omega), heap_alloc_old _ _ _ (by simp <;> omega), heap_alloc_old _ _ _ (by simp)]; exact heap_alloc_at _ _ _ _ rfl
  have h1 : w1.heap[z0 + 1]? = some (.cells #[.int .i64 br, .int .i64 n, .int .i64 s, .int .i64 line] 69 (0, 0)) := by rw [← hw1, ← hz0, heap_alloc_old _ _ _ (by simp <;> omega), heap_alloc_old _ _ _ (by simp)]; exact heap_alloc_at _ _ _ _ (by simp)
  have hF : FiR (z0 + 1 + 1) (z0 + 1 + 1 + 1) w1 := by
    refine ⟨?_, ?_⟩
    · rw [← hw1, ← hz0, heap_alloc_old _ _ _ (by simp)]; exact heap_alloc_at _ _ _ _ (by simp)
    · rw [← hw1, ← hz0]; exact heap_alloc_at _ _ _ _ (by simp)
  obtain ⟨z3, hz3⟩ : ∃ z, z0 + 1 + 1 + 1 = z := ⟨_, rfl⟩
  obtain ⟨z2, hz2⟩ : ∃ z, z0 + 1 + 1 = z := ⟨_, rfl⟩
  obtain ⟨z1, hz1⟩ : ∃ z, z0 + 1 = z := ⟨_, rfl⟩
  rw [hz0]
  rw [hw1, hz3, hz2, hz1]
  rw [hz3, hz2] at hF
  rw [hz1] at h1
  have hne : z2 ≠ z3 := by omega
  have hne' : z3 ≠ z2 := by omega
  have HZ := Lib.hid (show w.heap.size ≤ z2 ∧ w.heap.size ≤ z3 by omega)
  have a0 := cell_of h0 (i := 0) (u := .int .i64 b.ms) rfl
  have a1 := cell_of h0 (i := 1) (u := .int .i64 b.ht) rfl
  have a2 := cell_of h0 (i := 2) (u := .slice A N c) rfl
  have e1 := cell_of h1 (i := 1) (u := .int .i64 n) rfl
  have e2 := cell_of h1 (i := 2) (u := .int .i64 s) rfl
  have H1 := Lib.hid h1
  have HF := Lib.hid hF
  have HX1 := Lib.hid hx1
  have HP1 := Lib.hid (HPG.out w1 hx1)
  clear h0 h1 hF hx1 hz0 hz1 hz2 hz3 hw1 HPG
  go_upto_region 2 with (first | (go_at_call 91; refine (HP1.out).mono ?_; rintro z w2 (⟨hpn, rfl, hx2⟩ | ⟨p, A7, n7, c7, A8, n8, c8, hps, rfl, hc7, hc8, hr7, hr8, hx2⟩)))
  · have hx3 : Ext w1 (w2.alloc (.cells #[.int .i64 0, .int .i64 0, .int .i64 0, .int .i64 0, .slice none 0 0, .slice none 0 0] 84)) := hx2.alloc _
    have hp3 := heap_alloc_new w2 (.cells #[.int .i64 0, .int .i64 0, .int .i64 0, .int .i64 0, .slice none 0 0, .slice none 0 0] 84)
    have hw23 := (Ext.refl w2).alloc (.cells #[.int .i64 0, .int .i64 0, .int .i64 0, .int .i64 0, .slice none 0 0, .slice none 0 0] 84)
    obtain ⟨w3, hw3⟩ : ∃ w3, w2.alloc (.cells #[.int .i64 0, .int .i64 0, .int .i64 0, .int .i64 0, .slice none 0 0, .slice none 0 0] 84) = w3 := ⟨_, rfl⟩
    obtain ⟨z7, hz7⟩ : ∃ z, w2.heap.size = z := ⟨_, rfl⟩
    rw [hw3] at hx3 hp3 hw23 ⊢
    rw [hz7] at hp3 ⊢
    have hn72 : z7 ≠ z2 := by have := lt_of_block HF.out.h2; have := hx2.lt; omega
    have hn73 : z7 ≠ z3 := by have := lt_of_block HF.out.h3; have := hx2.lt; omega
    have hn27 : z2 ≠ z7 := fun e => hn72 e.symm
    have hn37 : z3 ≠ z7 := fun e => hn73 e.symm
    have e3 := cell_of ((hx3.block _ (lt_of_block H1.out)).trans H1.out) (i := 3) (u := .int .i64 line) rfl
    have hf := HF.out.ext hx3
    have k0 := cell_of hf.h2 (i := 0) (u := .int .i64 0) rfl
    have k1 := cell_of hf.h2 (i := 1) (u := .int .i64 0) rfl
    have k2 := cell_of hf.h2 (i := 2) (u := .int .i64 0) rfl
    have k3 := cell_of hf.h2 (i := 3) (u := .int .i64 0) rfl
    have k4 := cell_of hf.h2 (i := 4) (u := .slice none 0 0) rfl
    have k5 := cell_of hf.h2 (i := 5) (u := .slice none 0 0) rfl
    have f0 := frozen_of hf.h2 0
    have f1 := frozen_of hf.h2 1
    have f2 := frozen_of hf.h2 2
    have f3 := frozen_of hf.h2 3
    have f4 := frozen_of hf.h2 4
    have f5 := frozen_of hf.h2 5
    have m0 := cell_of hf.h3 (i := 0) (u := .int .i64 0) rfl
    have m1 := cell_of hf.h3 (i := 1) (u := .int .i64 0) rfl
    have m2 := cell_of hf.h3 (i := 2) (u := .slice none 0 0) rfl
    have m3 := cell_of hf.h3 (i := 3) (u := .slice none 0 0) rfl
    have g0 := frozen_of hf.h3 0
    have g1 := frozen_of hf.h3 1
    have g2 := frozen_of hf.h3 2
    have g3 := frozen_of hf.h3 3
    have HX3 := Lib.hid (HX1.out.trans hx3)
    have HF3 := Lib.hid hf
    clear hw3 hz7 hx2 hf a0 a1 a2 e1 e2 HP1
    obtain ⟨q, hq⟩ : ∃ q : Int, line - 1 = q := ⟨_, rfl⟩
    have hq0 : -9223372036854775808 ≤ line - 1 := by omega
    have hq1 : line - 1 ≤ 9223372036854775807 := by omega
    have HC := Lib.hid (show citP b n s line = none by unfold citP; rw [hpn]; rfl)
    clear hpn hx3 hp3 hw23
    go_wp2_with fail
    obtain ⟨Y, hY⟩ : ∃ Y, ((((((((((w3.setCell ⟨z2, 0, none⟩ (.int .i64 0)).setCell ⟨z2, 1, none⟩ (.int .i64 0)).setCell ⟨z2, 2, none⟩ (.int .i64 0)).setCell ⟨z2, 3, none⟩ (.int .i64 0)).setCell ⟨z2, 4, none⟩ (.slice none 0 0)).setCell ⟨z2, 5, none⟩ (.slice none 0 0)).setCell ⟨z3, 0, none⟩ (.int .i64 0)).setCell ⟨z3, 1, none⟩ (.int .i64 0)).setCell ⟨z3, 2, none⟩ (.slice none 0 0)).setCell ⟨z3, 3, none⟩ (.slice none 0 0)) = Y := ⟨_, rfl⟩
    have hs := st10 hne HF3.out.h2 HF3.out.h3 (.int .i64 0) (.int .i64 0) (.int .i64 0) (.int .i64 0) (.slice none 0 0) (.slice none 0 0) (.int .i64 0) (.int .i64 0) (.slice none 0 0) (.slice none 0 0)
    rw [hY] at hs ⊢
    have t0 := cell_of hs.h2 (i := 0) rfl
    have t1 := cell_of hs.h2 (i := 1) rfl
    have t2 := cell_of hs.h2 (i := 2) rfl
    have t3 := cell_of hs.h2 (i := 3) rfl
    have t4 := cell_of hs.h2 (i := 4) rfl
    have t5 := cell_of hs.h2 (i := 5) rfl
    have s0 := cell_of hs.h3 (i := 0) rfl
    have s1 := cell_of hs.h3 (i := 1) rfl
    have s2 := cell_of hs.h3 (i := 2) rfl
    have s3 := cell_of hs.h3 (i := 3) rfl
    refine bodyPost_ret (v := .tuple #[.agg #[.int .i64 0, .int .i64 0, .int .i64 0, .int .i64 0, .slice none 0 0, .slice none 0 0], .agg #[.int .i64 0, .int .i64 0, .slice none 0 0, .slice none 0 0], .bool false]) (by simp [results, Tryz.results44, go_sem, t0, t1, t2, t3, t4, t5, s0, s1, s2, s3]) rfl ?_
    exact ⟨hs.ext w HZ.out.1 HZ.out.2 HX3.out, .inl ⟨HC.out, rfl⟩⟩
  · have hx3 : Ext w1 (w2.alloc (.cells #[.int .i64 p.num, .int .i64 p.suf, .int .i64 p.ent, .int .i64 p.ver, .slice A7 n7 c7, .slice A8 n8 c8] 84)) := hx2.alloc _
    have hp3 := heap_alloc_new w2 (.cells #[.int .i64 p.num, .int .i64 p.suf, .int .i64 p.ent, .int .i64 p.ver, .slice A7 n7 c7, .slice A8 n8 c8] 84)
    have hw23 := (Ext.refl w2).alloc (.cells #[.int .i64 p.num, .int .i64 p.suf, .int .i64 p.ent, .int .i64 p.ver, .slice A7 n7 c7, .slice A8 n8 c8] 84)
    obtain ⟨w3, hw3⟩ : ∃ w3, w2.alloc (.cells #[.int .i64 p.num, .int .i64 p.suf, .int .i64 p.ent, .int .i64 p.ver, .slice A7 n7 c7, .slice A8 n8 c8] 84) = w3 := ⟨_, rfl⟩
    obtain ⟨z7, hz7⟩ : ∃ z, w2.heap.size = z := ⟨_, rfl⟩
    rw [hw3] at hx3 hp3 hw23 ⊢
    rw [hz7] at hp3 ⊢
    have hn72 : z7 ≠ z2 := by have := lt_of_block HF.out.h2; have := hx2.lt; omega
    have hn73 : z7 ≠ z3 := by have := lt_of_block HF.out.h3; have := hx2.lt; omega
    have hn27 : z2 ≠ z7 := fun e => hn72 e.symm
    have hn37 : z3 ≠ z7 := fun e => hn73 e.symm
    have e3 := cell_of ((hx3.block _ (lt_of_block H1.out)).trans H1.out) (i := 3) (u := .int .i64 line) rfl
    have hf := HF.out.ext hx3
    have k0 := cell_of hf.h2 (i := 0) (u := .int .i64 0) rfl
    have k1 := cell_of hf.h2 (i := 1) (u := .int .i64 0) rfl
    have k2 := cell_of hf.h2 (i := 2) (u := .int .i64 0) rfl
    have k3 := cell_of hf.h2 (i := 3) (u := .int .i64 0) rfl
    have k4 := cell_of hf.h2 (i := 4) (u := .slice none 0 0) rfl
    have k5 := cell_of hf.h2 (i := 5) (u := .slice none 0 0) rfl
    have f0 := frozen_of hf.h2 0
    have f1 := frozen_of hf.h2 1
    have f2 := frozen_of hf.h2 2
    have f3 := frozen_of hf.h2 3
    have f4 := frozen_of hf.h2 4
    have f5 := frozen_of hf.h2 5
    have m0 := cell_of hf.h3 (i := 0) (u := .int .i64 0) rfl
    have m1 := cell_of hf.h3 (i := 1) (u := .int .i64 0) rfl
    have m2 := cell_of hf.h3 (i := 2) (u := .slice none 0 0) rfl
    have m3 := cell_of hf.h3 (i := 3) (u := .slice none 0 0) rfl
    have g0 := frozen_of hf.h3 0
    have g1 := frozen_of hf.h3 1
    have g2 := frozen_of hf.h3 2
    have g3 := frozen_of hf.h3 3
    have HX3 := Lib.hid (HX1.out.trans hx3)
    have HF3 := Lib.hid hf
    clear hw3 hz7 hx2 hf a0 a1 a2 e1 e2 HP1
    obtain ⟨q, hq⟩ : ∃ q : Int, line - 1 = q := ⟨_, rfl⟩
    have hq0 : -9223372036854775808 ≤ line - 1 := by omega
    have hq1 : line - 1 ≤ 9223372036854775807 := by omega
    obtain ⟨hb1, hb2⟩ := HPL.out p hps
    have e7 := Lay.row_len hr7
    have e8 := Lay.row_len hr8
    have hn7 : n7 ≤ 1000 := by omega
    have hn8 : n8 ≤ 1000 := by omega
    have HE := Lib.hid (And.intro e7 e8)
    have HPS := Lib.hid hps
    have h23 : Ext w2 w3 := hw23
    have HR7 := Lib.hid (Lay.row_ext hr7 h23)
    have HR8 := Lib.hid (Lay.row_ext hr8 h23)
    have p0 := cell_of hp3 (i := 0) (u := .int .i64 p.num) rfl
    have p1 := cell_of hp3 (i := 1) (u := .int .i64 p.suf) rfl
    have p2 := cell_of hp3 (i := 2) (u := .int .i64 p.ent) rfl
    have p3 := cell_of hp3 (i := 3) (u := .int .i64 p.ver) rfl
    have p4 := cell_of hp3 (i := 4) (u := .slice A7 n7 c7) rfl
    have p5 := cell_of hp3 (i := 5) (u := .slice A8 n8 c8) rfl
    clear hps hx3 hp3 h23 hw23 hr7 hr8 e7 e8 hb1 hb2 HPL hq
    by_cases hl : line < 1
    · have HC := Lib.hid (show citP b n s line = none by unfold citP; rw [HPS.out]; exact if_pos hl)
      have hq2 : line - 1 < 0 := by omega
      go_wp2_with fail
      obtain ⟨Y, hY⟩ : ∃ Y, ((((((((((w3.setCell ⟨z2, 0, none⟩ (.int .i64 0)).setCell ⟨z2, 1, none⟩ (.int .i64 0)).setCell ⟨z2, 2, none⟩ (.int .i64 0)).setCell ⟨z2, 3, none⟩ (.int .i64 0)).setCell ⟨z2, 4, none⟩ (.slice none 0 0)).setCell ⟨z2, 5, none⟩ (.slice none 0 0)).setCell ⟨z3, 0, none⟩ (.int .i64 0)).setCell ⟨z3, 1, none⟩ (.int .i64 0)).setCell ⟨z3, 2, none⟩ (.slice none 0 0)).setCell ⟨z3, 3, none⟩ (.slice none 0 0)) = Y := ⟨_, rfl⟩
      have hs := st10 hne HF3.out.h2 HF3.out.h3 (.int .i64 0) (.int .i64 0) (.int .i64 0) (.int .i64 0) (.slice none 0 0) (.slice none 0 0) (.int .i64 0) (.int .i64 0) (.slice none 0 0) (.slice none 0 0)
      rw [hY] at hs ⊢
      have t0 := cell_of hs.h2 (i := 0) rfl
      have t1 := cell_of hs.h2 (i := 1) rfl
      have t2 := cell_of hs.h2 (i := 2) rfl
      have t3 := cell_of hs.h2 (i := 3) rfl
      have t4 := cell_of hs.h2 (i := 4) rfl
      have t5 := cell_of hs.h2 (i := 5) rfl
      have s0 := cell_of hs.h3 (i := 0) rfl
      have s1 := cell_of hs.h3 (i := 1) rfl
      have s2 := cell_of hs.h3 (i := 2) rfl
      have s3 := cell_of hs.h3 (i := 3) rfl
      refine bodyPost_ret (v := .tuple #[.agg #[.int .i64 0, .int .i64 0, .int .i64 0, .int .i64 0, .slice none 0 0, .slice none 0 0], .agg #[.int .i64 0, .int .i64 0, .slice none 0 0, .slice none 0 0], .bool false]) (by simp [results, Tryz.results44, go_sem, t0, t1, t2, t3, t4, t5, s0, s1, s2, s3]) rfl ?_
      exact ⟨hs.ext w HZ.out.1 HZ.out.2 HX3.out, .inl ⟨HC.out, rfl⟩⟩
    obtain ⟨i, hi⟩ : ∃ i : Nat, line - 1 = (i : Int) := ⟨(line - 1).toNat, by omega⟩
    have HI := Lib.hid (show (line - 1).toNat = i by omega)
    have HC := Lib.hid (show citP b n s line = ((p.body ++ p.nts)[i]?).map fun x => (p, x) by
      unfold citP; rw [HPS.out, Option.bind_some, if_neg hl, HI.out])
    have hi0 : ¬ (i : Int) < 0 := by omega
    by_cases h7 : i < n7
    · have gI : decide ((i : Int) < (n7 : Int)) = true := by rw [decide_eq_true_eq]; omega
      have gI2 : decide (i < n7) = true := by simpa using h7
      have hI : ((i : Nat) : Int) < (n7 : Int) := by omega
      obtain ⟨x, hx⟩ : ∃ x, p.body[i]? = some x := ⟨_, List.getElem?_eq_getElem (by have := HE.out.1; have := HE.out.2; omega)⟩
      obtain ⟨bl, ol, cl, rfl, hbl, hPl, hrl, hcl⟩ := Lay.row_at HR7.out hx
      obtain ⟨B1, m1', l1, B2, m2', l2, rfl, hm1, hm2, hg1, hg2⟩ := kLn_rep.1 hrl
      have y0 := hcl 0 _ rfl
      have y1 := hcl 1 _ rfl
      have y2 := hcl 2 _ rfl
      have y3 := hcl 3 _ rfl
      rw [kLn_sz] at y0 y1 y2 y3
      rw [Nat.add_zero] at y0
      have hl2 : bl ≠ z2 := by have := lt_of_block HF.out.h2; omega
      have hl3 : bl ≠ z3 := by have := lt_of_block HF.out.h3; omega
      have hl2' : z2 ≠ bl := fun e => hl2 e.symm
      have hl3' : z3 ≠ bl := fun e => hl3 e.symm
      have HCX := Lib.hid (show citP b n s line = some (p, x) by rw [HC.out, List.getElem?_append_left (by have := HE.out.1; omega), hx]; rfl)
      have HG := Lib.hid (And.intro hg1 hg2)
      clear hrl hcl hx hg1 hg2
      go_upto_region 6 with (fail)
      go_region_held3 (fun W => W.cell? ⟨z7, 0, none⟩ = some (.int .i64 p.num) ∧ W.cell? ⟨z7, 1, none⟩ = some (.int .i64 p.suf) ∧ W.cell? ⟨z7, 2, none⟩ = some (.int .i64 p.ent) ∧ W.cell? ⟨z7, 3, none⟩ = some (.int .i64 p.ver) ∧ W.cell? ⟨z7, 4, none⟩ = some (.slice (some ⟨bl, ol, none⟩) n7 c7) ∧ W.cell? ⟨z7, 5, none⟩ = some (.slice A8 n8 c8) ∧ W.cell? ⟨bl, ol + i * 4, none⟩ = some (.int .i64 x.fr) ∧ W.cell? ⟨bl, ol + i * 4 + 1, none⟩ = some (.int .i64 x.un) ∧ W.cell? ⟨bl, ol + i * 4 + 2, none⟩ = some (.slice B1 m1' l1) ∧ W.cell? ⟨bl, ol + i * 4 + 3, none⟩ = some (.slice B2 m2' l2)) (go_keep) (fail)
      obtain ⟨Y, hY⟩ : ∃ Y, ((((((((((w3.setCell ⟨z2, 0, none⟩ (.int .i64 p.num)).setCell ⟨z2, 1, none⟩ (.int .i64 p.suf)).setCell ⟨z2, 2, none⟩ (.int .i64 p.ent)).setCell ⟨z2, 3, none⟩ (.int .i64 p.ver)).setCell ⟨z2, 4, none⟩ (.slice (some ⟨bl, ol, none⟩) n7 c7)).setCell ⟨z2, 5, none⟩ (.slice A8 n8 c8)).setCell ⟨z3, 0, none⟩ (.int .i64 x.fr)).setCell ⟨z3, 1, none⟩ (.int .i64 x.un)).setCell ⟨z3, 2, none⟩ (.slice B1 m1' l1)).setCell ⟨z3, 3, none⟩ (.slice B2 m2' l2)) = Y := ⟨_, rfl⟩
      have hs := st10 hne HF3.out.h2 HF3.out.h3 (.int .i64 p.num) (.int .i64 p.suf) (.int .i64 p.ent) (.int .i64 p.ver) (.slice (some ⟨bl, ol, none⟩) n7 c7) (.slice A8 n8 c8) (.int .i64 x.fr) (.int .i64 x.un) (.slice B1 m1' l1) (.slice B2 m2' l2)
      rw [hY] at hs ⊢
      have h2d : (Y.drew).heap[z2]? = _ := hs.h2
      have h3d : (Y.drew).heap[z3]? = _ := hs.h3
      have t0 := cell_of h2d (i := 0) rfl
      have t1 := cell_of h2d (i := 1) rfl
      have t2 := cell_of h2d (i := 2) rfl
      have t3 := cell_of h2d (i := 3) rfl
      have t4 := cell_of h2d (i := 4) rfl
      have t5 := cell_of h2d (i := 5) rfl
      have s0 := cell_of h3d (i := 0) rfl
      have s1 := cell_of h3d (i := 1) rfl
      have s2 := cell_of h3d (i := 2) rfl
      have s3 := cell_of h3d (i := 3) rfl
      go_wp2_with fail
      refine bodyPost_ret (v := .tuple #[.agg #[.int .i64 p.num, .int .i64 p.suf, .int .i64 p.ent, .int .i64 p.ver, .slice (some ⟨bl, ol, none⟩) n7 c7, .slice A8 n8 c8], .agg #[.int .i64 x.fr, .int .i64 x.un, .slice B1 m1' l1, .slice B2 m2' l2], .bool true]) (by simp [results, Tryz.results44, go_sem, t0, t1, t2, t3, t4, t5, s0, s1, s2, s3]) rfl ?_
      have hkp : ∀ j, w1.heap.size ≤ j → Y.heap[j]? = w3.heap[j]? := fun j hj => hs.keep j (by have := lt_of_block HF.out.h2; omega) (by have := lt_of_block HF.out.h3; omega)
      exact ⟨(hs.ext w HZ.out.1 HZ.out.2 HX3.out).drew, .inr ⟨p, x, _, _, _, _, _, _, _, _, _, _, _, _, HCX.out, rfl, hc7, hc8, Lay.row_mono (Lay.row_keep HR7.out (by show w3.heap.size ≤ Y.heap.size; rw [hs.size]; exact Nat.le_refl _) fun j hj _ => hkp j hj) fun j hj _ => Nat.le_trans HX1.out.lt hj, Lay.row_mono (Lay.row_keep HR8.out (by show w3.heap.size ≤ Y.heap.size; rw [hs.size]; exact Nat.le_refl _) fun j hj _ => hkp j hj) fun j hj _ => Nat.le_trans HX1.out.lt hj,
        Lay.row_mono (Lay.row_keep HG.out.1 (by show w3.heap.size ≤ Y.heap.size; rw [hs.size]; exact Nat.le_refl _) fun j hj _ => hkp j hj) fun j hj _ => Nat.le_trans HX1.out.lt hj, Lay.row_mono (Lay.row_keep HG.out.2 (by show w3.heap.size ≤ Y.heap.size; rw [hs.size]; exact Nat.le_refl _) fun j hj _ => hkp j hj) fun j hj _ => Nat.le_trans HX1.out.lt hj, hm1, hm2⟩⟩
    obtain ⟨k, rfl⟩ : ∃ k, i = n7 + k := ⟨i - n7, by omega⟩
    have hi' : line - 1 = (n7 : Int) + (k : Int) := by omega
    clear hi
    have gI : decide ((n7 : Int) + (k : Int) < (n7 : Int)) = false := by rw [decide_eq_false_iff_not]; omega
    have hnI : ¬ (n7 : Int) + (k : Int) < (n7 : Int) := by omega
    by_cases h8 : k < n8
    · have gJ : decide ((n7 : Int) + (k : Int) < (n7 : Int) + (n8 : Int)) = true := by rw [decide_eq_true_eq]; omega
      have hJ : (n7 : Int) + (k : Int) < (n7 : Int) + (n8 : Int) := by omega
      have hI : ((k : Nat) : Int) < (n8 : Int) := by omega
      obtain ⟨x, hx⟩ : ∃ x, p.nts[k]? = some x := ⟨_, List.getElem?_eq_getElem (by have := HE.out.1; have := HE.out.2; omega)⟩
      obtain ⟨bl, ol, cl, rfl, hbl, hPl, hrl, hcl⟩ := Lay.row_at HR8.out hx
      obtain ⟨B1, m1', l1, B2, m2', l2, rfl, hm1, hm2, hg1, hg2⟩ := kLn_rep.1 hrl
      have y0 := hcl 0 _ rfl
      have y1 := hcl 1 _ rfl
      have y2 := hcl 2 _ rfl
      have y3 := hcl 3 _ rfl
      rw [kLn_sz] at y0 y1 y2 y3
      rw [Nat.add_zero] at y0
      have hl2 : bl ≠ z2 := by have := lt_of_block HF.out.h2; omega
      have hl3 : bl ≠ z3 := by have := lt_of_block HF.out.h3; omega
      have hl2' : z2 ≠ bl := fun e => hl2 e.symm
      have hl3' : z3 ≠ bl := fun e => hl3 e.symm
      have HCX := Lib.hid (show citP b n s line = some (p, x) by rw [HC.out, List.getElem?_append_right (by have := HE.out.1; omega), show n7 + k - p.body.length = k by have := HE.out.1; omega, hx]; rfl)
      have HG := Lib.hid (And.intro hg1 hg2)
      clear hrl hcl hx hg1 hg2 h7
      go_upto_region 8 with (fail)
      have gS : IntKind.i64.wrap ((n7 : Int) + (k : Int) - (n7 : Int)) = (k : Int) := by rw [show (n7 : Int) + (k : Int) - (n7 : Int) = (k : Int) by omega]; exact IntWalk.i64_in _ (by omega)
      go_region_held3 (fun W => W.cell? ⟨z7, 0, none⟩ = some (.int .i64 p.num) ∧ W.cell? ⟨z7, 1, none⟩ = some (.int .i64 p.suf) ∧ W.cell? ⟨z7, 2, none⟩ = some (.int .i64 p.ent) ∧ W.cell? ⟨z7, 3, none⟩ = some (.int .i64 p.ver) ∧ W.cell? ⟨z7, 4, none⟩ = some (.slice A7 n7 c7) ∧ W.cell? ⟨z7, 5, none⟩ = some (.slice (some ⟨bl, ol, none⟩) n8 c8) ∧ W.cell? ⟨bl, ol + k * 4, none⟩ = some (.int .i64 x.fr) ∧ W.cell? ⟨bl, ol + k * 4 + 1, none⟩ = some (.int .i64 x.un) ∧ W.cell? ⟨bl, ol + k * 4 + 2, none⟩ = some (.slice B1 m1' l1) ∧ W.cell? ⟨bl, ol + k * 4 + 3, none⟩ = some (.slice B2 m2' l2)) (go_keep) (fail)
      obtain ⟨Y, hY⟩ : ∃ Y, ((((((((((w3.setCell ⟨z2, 0, none⟩ (.int .i64 p.num)).setCell ⟨z2, 1, none⟩ (.int .i64 p.suf)).setCell ⟨z2, 2, none⟩ (.int .i64 p.ent)).setCell ⟨z2, 3, none⟩ (.int .i64 p.ver)).setCell ⟨z2, 4, none⟩ (.slice A7 n7 c7)).setCell ⟨z2, 5, none⟩ (.slice (some ⟨bl, ol, none⟩) n8 c8)).setCell ⟨z3, 0, none⟩ (.int .i64 x.fr)).setCell ⟨z3, 1, none⟩ (.int .i64 x.un)).setCell ⟨z3, 2, none⟩ (.slice B1 m1' l1)).setCell ⟨z3, 3, none⟩ (.slice B2 m2' l2)) = Y := ⟨_, rfl⟩
      have hs := st10 hne HF3.out.h2 HF3.out.h3 (.int .i64 p.num) (.int .i64 p.suf) (.int .i64 p.ent) (.int .i64 p.ver) (.slice A7 n7 c7) (.slice (some ⟨bl, ol, none⟩) n8 c8) (.int .i64 x.fr) (.int .i64 x.un) (.slice B1 m1' l1) (.slice B2 m2' l2)
      rw [hY] at hs ⊢
      have h2d : (Y.drew).heap[z2]? = _ := hs.h2
      have h3d : (Y.drew).heap[z3]? = _ := hs.h3
      have t0 := cell_of h2d (i := 0) rfl
      have t1 := cell_of h2d (i := 1) rfl
      have t2 := cell_of h2d (i := 2) rfl
      have t3 := cell_of h2d (i := 3) rfl
      have t4 := cell_of h2d (i := 4) rfl
      have t5 := cell_of h2d (i := 5) rfl
      have s0 := cell_of h3d (i := 0) rfl
      have s1 := cell_of h3d (i := 1) rfl
      have s2 := cell_of h3d (i := 2) rfl
      have s3 := cell_of h3d (i := 3) rfl
      go_wp2_with fail
      refine bodyPost_ret (v := .tuple #[.agg #[.int .i64 p.num, .int .i64 p.suf, .int .i64 p.ent, .int .i64 p.ver, .slice A7 n7 c7, .slice (some ⟨bl, ol, none⟩) n8 c8], .agg #[.int .i64 x.fr, .int .i64 x.un, .slice B1 m1' l1, .slice B2 m2' l2], .bool true]) (by simp [results, Tryz.results44, go_sem, t0, t1, t2, t3, t4, t5, s0, s1, s2, s3]) rfl ?_
      have hkp : ∀ j, w1.heap.size ≤ j → Y.heap[j]? = w3.heap[j]? := fun j hj => hs.keep j (by have := lt_of_block HF.out.h2; omega) (by have := lt_of_block HF.out.h3; omega)
      exact ⟨(hs.ext w HZ.out.1 HZ.out.2 HX3.out).drew, .inr ⟨p, x, _, _, _, _, _, _, _, _, _, _, _, _, HCX.out, rfl, hc7, hc8, Lay.row_mono (Lay.row_keep HR7.out (by show w3.heap.size ≤ Y.heap.size; rw [hs.size]; exact Nat.le_refl _) fun j hj _ => hkp j hj) fun j hj _ => Nat.le_trans HX1.out.lt hj, Lay.row_mono (Lay.row_keep HR8.out (by show w3.heap.size ≤ Y.heap.size; rw [hs.size]; exact Nat.le_refl _) fun j hj _ => hkp j hj) fun j hj _ => Nat.le_trans HX1.out.lt hj,
        Lay.row_mono (Lay.row_keep HG.out.1 (by show w3.heap.size ≤ Y.heap.size; rw [hs.size]; exact Nat.le_refl _) fun j hj _ => hkp j hj) fun j hj _ => Nat.le_trans HX1.out.lt hj, Lay.row_mono (Lay.row_keep HG.out.2 (by show w3.heap.size ≤ Y.heap.size; rw [hs.size]; exact Nat.le_refl _) fun j hj _ => hkp j hj) fun j hj _ => Nat.le_trans HX1.out.lt hj, hm1, hm2⟩⟩
    have gJ : decide ((n7 : Int) + (k : Int) < (n7 : Int) + (n8 : Int)) = false := by rw [decide_eq_false_iff_not]; omega
    have hJ : ¬ (n7 : Int) + (k : Int) < (n7 : Int) + (n8 : Int) := by omega
    have HC0 := Lib.hid (show citP b n s line = none by rw [HC.out, List.getElem?_eq_none (by rw [List.length_append]; have := HE.out.1; have := HE.out.2; omega)]; rfl)
    clear h7
    go_wp2_with fail
    obtain ⟨Y, hY⟩ : ∃ Y, ((((((((((w3.setCell ⟨z2, 0, none⟩ (.int .i64 0)).setCell ⟨z2, 1, none⟩ (.int .i64 0)).setCell ⟨z2, 2, none⟩ (.int .i64 0)).setCell ⟨z2, 3, none⟩ (.int .i64 0)).setCell ⟨z2, 4, none⟩ (.slice none 0 0)).setCell ⟨z2, 5, none⟩ (.slice none 0 0)).setCell ⟨z3, 0, none⟩ (.int .i64 0)).setCell ⟨z3, 1, none⟩ (.int .i64 0)).setCell ⟨z3, 2, none⟩ (.slice none 0 0)).setCell ⟨z3, 3, none⟩ (.slice none 0 0)) = Y := ⟨_, rfl⟩
    have hs := st10 hne HF3.out.h2 HF3.out.h3 (.int .i64 0) (.int .i64 0) (.int .i64 0) (.int .i64 0) (.slice none 0 0) (.slice none 0 0) (.int .i64 0) (.int .i64 0) (.slice none 0 0) (.slice none 0 0)
    rw [hY] at hs ⊢
    have h2d : (Y).heap[z2]? = _ := hs.h2
    have h3d : (Y).heap[z3]? = _ := hs.h3
    have t0 := cell_of h2d (i := 0) rfl
    have t1 := cell_of h2d (i := 1) rfl
    have t2 := cell_of h2d (i := 2) rfl
    have t3 := cell_of h2d (i := 3) rfl
    have t4 := cell_of h2d (i := 4) rfl
    have t5 := cell_of h2d (i := 5) rfl
    have s0 := cell_of h3d (i := 0) rfl
    have s1 := cell_of h3d (i := 1) rfl
    have s2 := cell_of h3d (i := 2) rfl
    have s3 := cell_of h3d (i := 3) rfl
    refine bodyPost_ret (v := .tuple #[.agg #[.int .i64 0, .int .i64 0, .int .i64 0, .int .i64 0, .slice none 0 0, .slice none 0 0], .agg #[.int .i64 0, .int .i64 0, .slice none 0 0, .slice none 0 0], .bool false]) (by simp [results, Tryz.results44, go_sem, t0, t1, t2, t3, t4, t5, s0, s1, s2, s3]) rfl ?_
    exact ⟨hs.ext w HZ.out.1 HZ.out.2 HX3.out, .inl ⟨HC0.out, rfl⟩⟩
end Go.Proofs.YtdbnddmncbjobaaGreatDoor

/- rollbookref28.Book: walked. -/
namespace Go.Proofs.YtdbnddmncbjobaaGreatDoor
open Go Go.RowKit

/-- The section k of a generated book of which fr sections are frozen. -/
structure SecOk (fr k : Nat) (x : Se) : Prop where
  ent : 2 * (k : Int) ≤ x.ent ∧ x.ent ≤ 2 * (k : Int) + 1
  fz : x.fz = decide (k < fr)
  vs : ∃ m : Nat, m ≤ 2 ∧ (m ≠ 0 → k < fr) ∧ x.vers = (10 - (k : Int)) :: (List.range m).map (fun (j : Nat) => 30 + 7 * (k : Int) - 3 * (j : Int)) ∧ x.texts.length = m + 1
  tx : ∀ t ∈ x.texts, OkT t
structure OkG (b : Bk) : Prop where
  m0 : 500 ≤ b.ms
  m1 : b.ms ≤ 2000
  h0 : 4 ≤ b.ht
  h1 : b.ht ≤ 100
  n : b.secs.length ≤ 4
  s : ∃ fr : Nat, ∀ (k : Nat) (x : Se), b.secs[k]? = some x → SecOk fr k x
theorem OkG.okB {b : Bk} (h : OkG b) : OkB b 4 3 := by
  obtain ⟨fr, hs⟩ := h.s
  have hm : ∀ x ∈ b.secs, ∃ k, SecOk fr k x := fun x hx => by
    obtain ⟨k, hk⟩ := List.getElem?_of_mem hx
    exact ⟨k, hs k x hk⟩
  refine ⟨h.m0, h.m1, h.h0, h.h1, h.n, fun x hx => ?_, fun x hx => ?_, ?_⟩
  · obtain ⟨k, hk⟩ := hm x hx
    obtain ⟨m, h1, _, h2, h3⟩ := hk.vs
    exact ⟨by rw [h2, h3]; simp, by rw [h2]; simp, by omega⟩
  · obtain ⟨k, hk⟩ := hm x hx; exact hk.tx
  · rw [List.nodup_iff_pairwise_ne, List.pairwise_iff_getElem]
    intro i j hi hj hij
    rw [List.length_map] at hi hj
    have h1 := (hs i _ (List.getElem?_eq_getElem hi)).ent
    have h2 := (hs j _ (List.getElem?_eq_getElem hj)).ent
    intro e9
    rw [List.getElem_map, List.getElem_map] at e9
    omega
theorem own_new {β : Type} {k : Lay β} {X : World} {base : Nat} {P : Nat → Prop} {x : β} {cs : Array Value} {e : TypeId} (hb : base ≤ X.heap.size) (hr : k.rep X (fun j => P j ∧ j ≠ X.heap.size) x cs.toList) :
    k.own e (X.alloc (.cells cs e)) base P (.slice (some ⟨X.heap.size, 0, none⟩) 1 1) [x] := by
  obtain ⟨d0, hd0⟩ : ∃ d0 : Cs k.sz, ccf d0 = cs.toList := ⟨⟨cs.toList, k.len hr, k.one hr⟩, rfl⟩
  have hsz : cs.size = k.sz := by have := k.len hr; simpa using this
  refine ⟨[d0], ?_, rfl, fun i d y hd hy => ?_⟩
  · unfold OL
    have hg : gcells ccf [d0] = cs.toList := by simp [gcells, hd0]
    rw [hg]
    refine ⟨by simp [hsz], .inr ⟨X.heap.size, 1, cs, rfl, hb, heap_alloc_new X _, by simp, by simp [maxLen], by simp [hsz], ?_⟩⟩
    rw [List.length_singleton, Nat.one_mul, ← hsz]
    exact List.take_of_length_le (by simp)
  · cases i with
    | zero =>
      injection hd with hd
      injection hy with hy
      subst hd hy
      have h9 : k.rep X (fun j => P j ∧ j ≠ X.heap.size) x (ccf d0) := by rw [hd0]; exact hr
      exact k.ext (k.mono h9 fun j hj _ => ⟨hj.1, fun e => hj.2 (by have : some X.heap.size = some j := e; injection this with this; exact this.symm)⟩) ((Ext.refl X).alloc _)
    | succ i => cases hd
/-- Between two rounds of the outer loop: so many sections. -/
structure BgS (w : World) (ms ht : Int) (fr : Nat) (secs : List Se) (vS : Value) (W : World) : Prop where
  x : Ext w W
  r : W.heap[w.heap.size]? = some (.cells #[.int .i64 0, .int .i64 0, .slice none 0 0] 27 (0, 0))
  b : W.heap[w.heap.size + 1]? = some (.cells #[.int .i64 ms, .int .i64 ht, vS] 27 (0, 0))
  own : kSe.own 46 W (w.heap.size + 2) (fun j => w.heap.size + 2 ≤ j) vS secs
  ok : ∀ (k : Nat) (x : Se), secs[k]? = some x → SecOk fr k x
theorem BgS.size {w : World} {ms ht : Int} {fr : Nat} {secs : List Se} {vS : Value} {W : World} (h : BgS w ms ht fr secs vS W) : w.heap.size + 2 ≤ W.heap.size := lt_of_block h.b
theorem BgS.ext {w : World} {ms ht : Int} {fr : Nat} {secs : List Se} {vS : Value} {W W' : World} (h : BgS w ms ht fr secs vS W) (hx : Ext W W') : BgS w ms ht fr secs vS W' :=
  ⟨h.x.trans hx, (hx.block _ (lt_of_block h.r)).trans h.r, (hx.block _ (lt_of_block h.b)).trans h.b, Lay.own_ext h.own hx, h.ok⟩
def BgR (w : World) (ms ht : Int) (fr n : Nat) (s6 : Value) (W : World) : Prop := ∃ (secs : List Se) (A : Option Addr) (c : Nat), secs.length ≤ n ∧ s6 = .int .i64 secs.length ∧ BgS w ms ht fr secs (.slice A secs.length c) W
/-- What lies below the section that is being made. -/
structure Low (w : World) (ms ht : Int) (fr : Nat) (secs : List Se) (vS : Value) (Bs : Nat) (W : World) : Prop where
  x : Ext w W
  r : W.heap[w.heap.size]? = some (.cells #[.int .i64 0, .int .i64 0, .slice none 0 0] 27 (0, 0))
  b : W.heap[w.heap.size + 1]? = some (.cells #[.int .i64 ms, .int .i64 ht, vS] 27 (0, 0))
  own : kSe.own 46 W (w.heap.size + 2) (fun j => w.heap.size + 2 ≤ j ∧ j < Bs) vS secs
  ok : ∀ (k : Nat) (x : Se), secs[k]? = some x → SecOk fr k x
  hb : w.heap.size + 2 ≤ Bs
  hS : ∀ j, vS.ownBlock = some j → j < Bs
theorem Low.keep {w : World} {ms ht : Int} {fr : Nat} {secs : List Se} {vS : Value} {Bs : Nat} {W W' : World} (h : Low w ms ht fr secs vS Bs W) (hk : Below Bs W W') : Low w ms ht fr secs vS Bs W' :=
  ⟨Below.trans h.x (hk.mono (by have := h.hb; omega)), (hk.block _ (by have := h.hb; omega)).trans h.r, (hk.block _ (by have := h.hb; omega)).trans h.b, Lay.own_keep h.own hk.size (fun j hj _ => by
    rcases hj with hj | hj
    · exact hk.block j hj.2
    · exact hk.block j (h.hS j hj)), h.ok, h.hb, h.hS⟩
theorem BgS.low {w : World} {ms ht : Int} {fr : Nat} {secs : List Se} {vS : Value} {W : World} (h : BgS w ms ht fr secs vS W) : Low w ms ht fr secs vS W.heap.size W :=
  ⟨h.x, h.r, h.b, Lay.own_mono h.own fun _ hj hl => ⟨hj, hl⟩, h.ok, h.size, fun j hj => (Lay.own_lt h.own j hj).2⟩
/-- A section is being made: its block zs, its versions, its texts. -/
structure InS (w : World) (ms ht : Int) (fr : Nat) (secs : List Se) (vS : Value) (Bs zs : Nat) (ent : Int) (fz : Bool) (vV vT : Value) (vers : List Int) (texts : List Tx) (W : World) : Prop where
  low : Low w ms ht fr secs vS Bs W
  s : W.heap[zs]? = some (.cells #[.int .i64 ent, .bool fz, vV, vT] 46 (0, 0))
  ov : kInt.own 3 W Bs (fun _ => False) vV vers
  ot : kTx.own 53 W Bs (fun j => Bs ≤ j ∧ j ≠ zs ∧ vV.ownBlock ≠ some j) vT texts
  d1 : vV.ownBlock ≠ some zs
  d2 : vT.ownBlock ≠ some zs
  d3 : ∀ j, vV.ownBlock = some j → vT.ownBlock ≠ some j
  hz : Bs ≤ zs
theorem InS.lt {w : World} {ms ht : Int} {fr : Nat} {secs : List Se} {vS : Value} {Bs zs : Nat} {ent : Int} {fz : Bool} {vV vT : Value} {vers : List Int} {texts : List Tx} {W : World} (h : InS w ms ht fr secs vS Bs zs ent fz vV vT vers texts W) : zs < W.heap.size := lt_of_block h.s
theorem InS.ext {w : World} {ms ht : Int} {fr : Nat} {secs : List Se} {vS : Value} {Bs zs : Nat} {ent : Int} {fz : Bool} {vV vT : Value} {vers : List Int} {texts : List Tx} {W W' : World} (h : InS w ms ht fr secs vS Bs zs ent fz vV vT vers texts W) (hx : Ext W W') : InS w ms ht fr secs vS Bs zs ent fz vV vT vers texts W' :=
  ⟨h.low.keep (Below.mono hx (by have := h.lt; have := h.hz; omega)), (hx.block _ h.lt).trans h.s, Lay.own_ext h.ov hx, Lay.own_ext h.ot hx, h.d1, h.d2, h.d3, h.hz⟩
theorem InS.appV {w : World} {ms ht : Int} {fr : Nat} {secs : List Se} {vS : Value} {Bs zs : Nat} {ent : Int} {fz : Bool} {vV vT : Value} {vers : List Int} {texts : List Tx} {W : World} (h : InS w ms ht fr secs vS Bs zs ent fz vV vT vers texts W) (x : Int) (hm : vers.length ≤ 1000) :
    ∃ A' c' w', (Builtin.append_ #[22, 22] 22 #[vV, .slice (some ⟨W.heap.size, 0, none⟩) 1 1]).run Tryz.prog (W.alloc (.cells #[.int .i64 x] 3)) = .ok (.slice A' (vers.length + 1) c') w' ∧
      w'.heap[zs]? = some (.cells #[.int .i64 ent, .bool fz, vV, vT] 46 (0, 0)) ∧ InS w ms ht fr secs vS Bs zs ent fz (.slice A' (vers.length + 1) c') vT (vers ++ [x]) texts (w'.setCell ⟨zs, 2, none⟩ (.slice A' (vers.length + 1) c')) := by
  have hlz := h.lt
  have hzb := h.hz
  obtain ⟨A', c', w', r1, r2, r3, r4, r5, r6⟩ := own_app1 (k := kInt) (Pr := Tryz.prog) (t := 22) Tryz.underlying22 info3 rfl (by decide) (by omega) h.ov (by omega) (cs := #[.int .i64 x]) (T := 3) (x := x) rfl 1 (by omega)
  have hzs : w'.heap[zs]? = some (.cells #[.int .i64 ent, .bool fz, vV, vT] 46 (0, 0)) := (r4 zs hlz h.d1).trans h.s
  have g1 : (Value.slice A' (vers.length + 1) c').ownBlock ≠ some zs := fun e => by
    rcases r6 zs e with e | e
    · exact h.d1 e
    · omega
  refine ⟨A', c', w', r1, hzs, ⟨(h.low.keep (r3 Bs (Nat.le_refl _))).keep (Below.setCell (Below.refl _ _) hzb _), ?_, Lay.own_keep r2 (by simp) ?_, ?_, g1, h.d2, ?_, hzb⟩⟩
  · exact heap_setCell_same w' zs 2 _ 46 _ hzs
  · intro j hj _
    rcases hj with hj | hj
    · exact hj.elim
    · exact heap_setCell_other w' ⟨zs, 2, none⟩ j _ (fun e => g1 (hj.trans (congrArg some e)))
  · have h1 := Lay.own_mono (P' := fun j => (Bs ≤ j ∧ j ≠ zs ∧ vV.ownBlock ≠ some j) ∧ (Value.slice A' (vers.length + 1) c').ownBlock ≠ some j) h.ot fun j hj hl => ⟨hj, fun e => by
      rcases r6 j e with e | e
      · exact hj.2.2 e
      · omega⟩
    have h2 := Lay.own_keep h1 r5 fun j hj hl => r4 j hl (by
      rcases hj with hj | hj
      · exact hj.1.2.2
      · exact fun e => h.d3 j e hj)
    have h3 := Lay.own_keep (W' := w'.setCell ⟨zs, 2, none⟩ (.slice A' (vers.length + 1) c')) h2 (by simp) fun j hj _ => heap_setCell_other w' ⟨zs, 2, none⟩ j _ (by
      rcases hj with hj | hj
      · exact hj.1.2.1
      · exact fun e => h.d2 (hj.trans (congrArg some e)))
    exact Lay.own_mono h3 fun j hj _ => ⟨hj.1.1, hj.1.2.1, hj.2⟩
  · intro j hj e
    rcases r6 j hj with h9 | h9
    · exact h.d3 j h9 e
    · have := (Lay.own_lt h.ot j e).2; omega
theorem InS.appT {w : World} {ms ht : Int} {fr : Nat} {secs : List Se} {vS : Value} {Bs zs : Nat} {ent : Int} {fz : Bool} {vV vT : Value} {vers : List Int} {texts : List Tx} {W W1 : World} (h : InS w ms ht fr secs vS Bs zs ent fz vV vT vers texts W) (hx : Ext W W1) {t : Tx} {A1 A2 : Option Addr} {n1 c1 n2 c2 : Nat} (hg : GT W.heap.size t (.agg #[.slice A1 n1 c1, .slice A2 n2 c2]) W1) (hm : texts.length ≤ 1000) :
    ∃ A' c' w', (Builtin.append_ #[44, 44] 44 #[vT, .slice (some ⟨W1.heap.size, 0, none⟩) 1 1]).run Tryz.prog (W1.alloc (.cells #[.slice A1 n1 c1, .slice A2 n2 c2] 53)) = .ok (.slice A' (texts.length + 1) c') w' ∧
      w'.heap[zs]? = some (.cells #[.int .i64 ent, .bool fz, vV, vT] 46 (0, 0)) ∧ InS w ms ht fr secs vS Bs zs ent fz vV (.slice A' (texts.length + 1) c') vers (texts ++ [t]) (w'.setCell ⟨zs, 3, none⟩ (.slice A' (texts.length + 1) c')) := by
  have hlz := h.lt
  have hzb := h.hz
  have h' := h.ext hx
  have hvl := Lay.own_lt h.ov
  have htl := Lay.own_lt h.ot
  obtain ⟨B1, m1, d1, B2, m2, d2, e9, k1, k2, k3, k4⟩ := hg
  have e10 := (Value.agg.inj e9)
  simp only [Array.mk.injEq, List.cons.injEq, Value.slice.injEq, and_true] at e10
  obtain ⟨⟨rfl, rfl, rfl⟩, rfl, rfl, rfl⟩ := e10
  have hP : ∀ j, W.heap.size ≤ j → j < W1.heap.size → (Bs ≤ j ∧ j ≠ zs ∧ vV.ownBlock ≠ some j) ∧ vT.ownBlock ≠ some j := fun j hj _ => ⟨⟨by omega, by omega, fun e => by have := (hvl j e).2; omega⟩, fun e => by have := (htl j e).2; omega⟩
  obtain ⟨A', c', w', r1, r2, r3, r4, r5, r6⟩ := own_app1 (k := kTx) (Pr := Tryz.prog) (t := 44) Tryz.underlying44 info53 rfl (by decide) (by omega) h'.ot (by have := hx.lt; omega) (cs := #[.slice A1 n1 c1, .slice A2 n2 c2]) (T := 53) (x := t)
    (kTx_rep.2 ⟨_, _, _, _, _, _, rfl, k1, k2, Lay.row_mono k3 hP, Lay.row_mono k4 hP⟩) 1 (by omega)
  have hzs : w'.heap[zs]? = some (.cells #[.int .i64 ent, .bool fz, vV, vT] 46 (0, 0)) := (r4 zs h'.lt h.d2).trans h'.s
  have g1 : (Value.slice A' (texts.length + 1) c').ownBlock ≠ some zs := fun e => by
    rcases r6 zs e with e | e
    · exact h.d2 e
    · have := h'.lt; omega
  refine ⟨A', c', w', r1, hzs, ⟨(h'.low.keep (r3 Bs (Nat.le_refl _))).keep (Below.setCell (Below.refl _ _) hzb _), ?_, ?_, Lay.own_keep r2 (by simp) ?_, h.d1, g1, ?_, hzb⟩⟩
  · exact heap_setCell_same w' zs 3 _ 46 _ hzs
  · have h2 := Lay.own_keep h'.ov r5 fun j hj hl => r4 j hl (by
      rcases hj with hj | hj
      · exact hj.elim
      · exact h.d3 j hj)
    refine Lay.own_keep h2 (by simp) fun j hj _ => heap_setCell_other w' ⟨zs, 3, none⟩ j _ ?_
    rcases hj with hj | hj
    · exact hj.elim
    · exact fun e => h.d1 (hj.trans (congrArg some e))
  · intro j hj _
    refine heap_setCell_other w' ⟨zs, 3, none⟩ j _ ?_
    rcases hj with hj | hj
    · exact hj.2.1
    · exact fun e => g1 (hj.trans (congrArg some e))
  · intro j hj e
    rcases r6 j e with h9 | h9
    · exact h.d3 j hj h9
    · have := (hvl j hj).2; have := hx.lt; omega
theorem InS.firstT {w : World} {ms ht : Int} {fr : Nat} {secs : List Se} {vS : Value} {Bs zs : Nat} {ent : Int} {fz : Bool} {vV : Value} {vers : List Int} {W W1 : World} (h : InS w ms ht fr secs vS Bs zs ent fz vV (.slice none 0 0) vers [] W) (hx : Ext W W1) {t : Tx} {A1 A2 : Option Addr} {n1 c1 n2 c2 : Nat} (hg : GT W.heap.size t (.agg #[.slice A1 n1 c1, .slice A2 n2 c2]) W1) :
    InS w ms ht fr secs vS Bs zs ent fz vV (.slice (some ⟨W1.heap.size, 0, none⟩) 1 1) vers [t] ((W1.setCell ⟨zs, 3, none⟩ (.slice (some ⟨W1.heap.size, 0, none⟩) 1 1)).alloc (.cells #[.slice A1 n1 c1, .slice A2 n2 c2] 53)) := by
  have hlz := h.lt
  have hzb := h.hz
  have h' := h.ext hx
  have hxl := hx.lt
  have hvl := Lay.own_lt h.ov
  obtain ⟨B1, m1, d1, B2, m2, d2, e9, k1, k2, k3, k4⟩ := hg
  have e10 := (Value.agg.inj e9)
  simp only [Array.mk.injEq, List.cons.injEq, Value.slice.injEq, and_true] at e10
  obtain ⟨⟨rfl, rfl, rfl⟩, rfl, rfl, rfl⟩ := e10
  obtain ⟨Y, hY⟩ : ∃ Y, W1.setCell ⟨zs, 3, none⟩ (.slice (some ⟨W1.heap.size, 0, none⟩) 1 1) = Y := ⟨_, rfl⟩
  have hYs : Y.heap.size = W1.heap.size := by rw [← hY]; simp
  have hYk : ∀ j, j ≠ zs → Y.heap[j]? = W1.heap[j]? := fun j hj => by rw [← hY]; exact heap_setCell_other W1 ⟨zs, 3, none⟩ j _ hj
  have hYz : Y.heap[zs]? = some (.cells #[.int .i64 ent, .bool fz, vV, .slice (some ⟨W1.heap.size, 0, none⟩) 1 1] 46 (0, 0)) := by rw [← hY]; exact heap_setCell_same W1 zs 3 _ 46 _ h'.s
  have hYb : Below Bs W1 Y := by rw [← hY]; exact Below.setCell (Below.refl _ _) hzb _
  rw [hY]
  have hxa : Ext Y (Y.alloc (.cells #[.slice A1 n1 c1, .slice A2 n2 c2] 53)) := (Ext.refl Y).alloc _
  have hot : kTx.own 53 (Y.alloc (.cells #[.slice A1 n1 c1, .slice A2 n2 c2] 53)) Bs (fun j => Bs ≤ j ∧ j ≠ zs ∧ vV.ownBlock ≠ some j) (.slice (some ⟨Y.heap.size, 0, none⟩) 1 1) [t] := by
    refine own_new (by omega) (kTx_rep.2 ⟨_, _, _, _, _, _, rfl, k1, k2, ?_, ?_⟩)
    · exact Lay.row_mono (Lay.row_keep (Lay.row_mono (Q := fun j => W.heap.size ≤ j ∧ j < W1.heap.size) k3 fun j hj hl => ⟨hj, hl⟩) (by omega) fun j hj _ => hYk j (by omega)) fun j hj _ => ⟨⟨by omega, by omega, fun e => by have := (hvl j e).2; omega⟩, by omega⟩
    · exact Lay.row_mono (Lay.row_keep (Lay.row_mono (Q := fun j => W.heap.size ≤ j ∧ j < W1.heap.size) k4 fun j hj hl => ⟨hj, hl⟩) (by omega) fun j hj _ => hYk j (by omega)) fun j hj _ => ⟨⟨by omega, by omega, fun e => by have := (hvl j e).2; omega⟩, by omega⟩
  rw [hYs] at hot
  refine ⟨(h'.low.keep hYb).keep (Below.mono hxa (by omega)), (hxa.block _ (by omega)).trans hYz, Lay.own_ext (Lay.own_keep h'.ov (by omega) fun j hj hl => ?_) hxa, hot, h.d1, ?_, ?_, hzb⟩
  · rcases hj with hj | hj
    · exact hj.elim
    · exact hYk j fun e => h.d1 (hj.trans (congrArg some e))
  · intro e; have : some W1.heap.size = some zs := e; injection this; omega
  · intro j hj e
    have : some W1.heap.size = some j := e
    injection this with this
    have := (hvl j hj).2
    omega
/-- Between two rounds of the inner loop. -/
def InR (w : World) (ms ht : Int) (fr : Nat) (secs : List Se) (vS : Value) (Bs zs : Nat) (ent : Int) (fz : Bool) (v0 : Int) (i : Nat) (s8 : Value) (W : World) : Prop :=
  ∃ (k : Nat) (A B : Option Addr) (c d : Nat) (vers : List Int) (texts : List Tx), k ≤ 2 ∧ s8 = .int .i64 k ∧ (k ≠ 0 → fz = true) ∧ vers = v0 :: (List.range k).map (fun (j : Nat) => 30 + 7 * (i : Int) - 3 * (j : Int)) ∧ texts.length = k + 1 ∧ (∀ t ∈ texts, OkT t) ∧
    InS w ms ht fr secs vS Bs zs ent fz (.slice A (k + 1) c) (.slice B (k + 1) d) vers texts W
theorem InS.fin {w : World} {ms ht : Int} {fr : Nat} {secs : List Se} {vS : Value} {Bs zs : Nat} {ent : Int} {fz : Bool} {vV vT : Value} {vers : List Int} {texts : List Tx} {W : World} (h : InS w ms ht fr secs vS Bs zs ent fz vV vT vers texts W) (hm : secs.length ≤ 1000) (hok : SecOk fr secs.length ⟨ent, fz, vers, texts⟩) :
    ∃ A' c' w', (Builtin.append_ #[25, 25] 25 #[vS, .slice (some ⟨W.heap.size, 0, none⟩) 1 1]).run Tryz.prog (W.alloc (.cells #[.int .i64 ent, .bool fz, vV, vT] 46)) = .ok (.slice A' (secs.length + 1) c') w' ∧
      w'.heap[w.heap.size + 1]? = some (.cells #[.int .i64 ms, .int .i64 ht, vS] 27 (0, 0)) ∧ BgS w ms ht fr (secs ++ [⟨ent, fz, vers, texts⟩]) (.slice A' (secs.length + 1) c') (w'.setCell ⟨w.heap.size + 1, 2, none⟩ (.slice A' (secs.length + 1) c')) := by
  have hlz := h.lt
  have hzb := h.hz
  have hwb := h.low.hb
  obtain ⟨A1, c1, e1, k1, v1⟩ := own_rowN (Q := fun j => w.heap.size + 2 ≤ j ∧ vS.ownBlock ≠ some j) h.ov (fun j hj => hj.elim) (fun j hj _ => ⟨by omega, fun e => by have := h.low.hS j e; omega⟩)
  obtain ⟨A2, c2, e2, k2, v2⟩ := own_rowN (Q := fun j => w.heap.size + 2 ≤ j ∧ vS.ownBlock ≠ some j) h.ot (fun j hj _ => ⟨by omega, fun e => by have := h.low.hS j e; omega⟩) (fun j hj _ => ⟨by omega, fun e => by have := h.low.hS j e; omega⟩)
  have hoS := Lay.own_mono (P' := fun j => w.heap.size + 2 ≤ j) h.low.own fun j hj _ => hj.1
  have hSl := Lay.own_lt h.low.own
  obtain ⟨A', c', w', r1, r2, r3, r4, r5, r6⟩ := own_app1 (k := kSe) (Pr := Tryz.prog) (t := 25) Tryz.underlying25 info46 rfl (by decide) (by omega) hoS (by omega) (cs := #[.int .i64 ent, .bool fz, vV, vT]) (T := 46) (x := ⟨ent, fz, vers, texts⟩)
    (by rw [e1, e2]; exact kSe_rep.2 ⟨_, _, _, _, _, _, rfl, k1, k2, v1, v2⟩) 1 (by omega)
  have hb1 : w'.heap[w.heap.size + 1]? = some (.cells #[.int .i64 ms, .int .i64 ht, vS] 27 (0, 0)) := (r4 _ (by omega) (fun e => by have := (hSl _ e).1; omega)).trans h.low.b
  have hr1 : w'.heap[w.heap.size]? = _ := (r4 _ (by omega) (fun e => by have := (hSl _ e).1; omega)).trans h.low.r
  refine ⟨A', c', w', r1, hb1, ⟨?_, ?_, heap_setCell_same w' (w.heap.size + 1) 2 _ 27 _ hb1, Lay.own_keep r2 (by simp) ?_, ?_⟩⟩
  · exact Ext.setCell (p := ⟨w.heap.size + 1, 2, none⟩) (Below.trans h.low.x (r3 w.heap.size (by omega))) (by show w.heap.size ≤ w.heap.size + 1; omega) _
  · rw [heap_setCell_other w' ⟨w.heap.size + 1, 2, none⟩ w.heap.size _ (by show w.heap.size ≠ w.heap.size + 1; omega)]; exact hr1
  · intro j hj _
    refine heap_setCell_other w' ⟨w.heap.size + 1, 2, none⟩ j _ ?_
    show j ≠ w.heap.size + 1
    rcases hj with hj | hj
    · omega
    · have := (Lay.own_lt r2 j hj).1; omega
  · intro k x hk
    rw [List.getElem?_append] at hk
    split at hk
    · exact h.low.ok k x hk
    · next hlt =>
      have hk0 : k - secs.length = 0 := by
        have := (List.getElem?_eq_some_iff.1 hk).1
        simp at this; omega
      rw [hk0] at hk
      injection hk with hk
      subst hk
      rw [show k = secs.length by omega]
      exact hok
def BookGet (w : World) (e : Ending) (w' : World) : Prop := ∃ (b : Bk) (A : Option Addr) (n c : Nat), e = .returned (.agg #[.int .i64 b.ms, .int .i64 b.ht, .slice A n c]) ∧ OkG b ∧ n ≤ c ∧ kSe.row w' (fun j => w.heap.size ≤ j) A n b.secs ∧ Ext w w'
end Go.Proofs.YtdbnddmncbjobaaGreatDoor

/- rollbookref28.Book: walked. -/
namespace Go.Proofs.YtdbnddmncbjobaaGreatDoor
open Go Go.RowKit

set_option maxHeartbeats 8000000 in
set_option maxRecDepth 100000 in
theorem gbook_any (A : Option Addr) (c : Nat) (l : List Int) (w : World) (h : IL w A c l) (hl : l.length ≤ 9223372036854775807) :
    Calls Tryz.prog 39 #[.slice A l.length c] w (BookGet w) := by
  have HTX := Lib.hid (fun W (hW : Ext w W) (k : Nat) (hk : k ≤ 1000000) => gtextat_any A c l k W (h.ext hW) hl hk)
  obtain ⟨m, hm⟩ : ∃ m, m = l.length := ⟨_, rfl⟩
  have HP := Lib.hid (fun W (hW : Ext w W) (i k : Nat) (ii mm : Int) h1 h2 h3 h4 => (show Calls Tryz.prog 77 #[.slice A m c, .int .i64 ii, .int .i64 mm] W (fun e w' => e = .returned (.int .i64 (pkI l i k)) ∧ W = w') from by rw [hm]; exact pick_fix A c l i k W ii mm h1 h2 h3 h4 h.ok (h.sl.ext hW)))
  rw [← hm] at HTX ⊢
  clear hm h hl
  obtain ⟨k0, hk0, hk0b⟩ := pk_nat l 0 30 (by omega)
  obtain ⟨k1, hk1, hk1b⟩ := pk_nat l 1 5 (by omega)
  obtain ⟨n, hn, hnb⟩ := pk_nat l 2 5 (by omega)
  obtain ⟨fr, hfr, hfrb⟩ := pk_nat l 3 (n + 1) (by omega)
  have H0 := Lib.hid (fun W hW => (show Calls Tryz.prog 77 #[.slice A m c, .int .i64 0, .int .i64 30] W (fun e w' => e = .returned (.int .i64 (k0 : Int)) ∧ W = w') from by rw [← hk0]; exact HP.out W hW 0 30 0 30 rfl rfl (by omega) (by omega)))
  have H1 := Lib.hid (fun W hW => (show Calls Tryz.prog 77 #[.slice A m c, .int .i64 1, .int .i64 5] W (fun e w' => e = .returned (.int .i64 (k1 : Int)) ∧ W = w') from by rw [← hk1]; exact HP.out W hW 1 5 1 5 rfl rfl (by omega) (by omega)))
  have H2 := Lib.hid (fun W hW => (show Calls Tryz.prog 77 #[.slice A m c, .int .i64 2, .int .i64 5] W (fun e w' => e = .returned (.int .i64 (n : Int)) ∧ W = w') from by rw [← hn]; exact HP.out W hW 2 5 2 5 rfl rfl (by omega) (by omega)))
  have H3 := Lib.hid (fun W hW => (show Calls Tryz.prog 77 #[.slice A m c, .int .i64 3, .int .i64 ((n : Int) + 1)] W (fun e w' => e = .returned (.int .i64 (fr : Int)) ∧ W = w') from by rw [← hfr]; exact HP.out W hW 3 (n + 1) 3 _ rfl (by simp) (by omega) (by omega)))
  clear hk0 hk1 hn hfr
  go_enter Tryz.func39, Tryz.ntmps39
  have hx1 : Ext w (w.alloc (.cells #[.int .i64 0, .int .i64 0, .slice none 0 0] 27)) := (Ext.refl w).alloc _
  go_upto_region 2 with (first
    | (have hg := A1; clear hg; go_at_call 77; refine (H1.out _ hx1).mono ?_; rintro e w1 ⟨rfl, rfl⟩)
    | (go_at_call 77; refine (H0.out _ hx1).mono ?_; rintro e w1 ⟨rfl, rfl⟩; have A1 := Lib.hid True.intro))
  obtain ⟨wl, hwl⟩ : ∃ wl, ((w.alloc (.cells #[.int .i64 0, .int .i64 0, .slice none 0 0] 27)).alloc (.cells #[.int .i64 (500 + 20 * (k0 : Int)), .int .i64 (4 + (k1 : Int)), .slice none 0 0] 27)) = wl := ⟨_, rfl⟩
  obtain ⟨ms, hms⟩ : ∃ ms : Int, ms = 500 + 20 * (k0 : Int) := ⟨_, rfl⟩
  obtain ⟨ht, hht⟩ : ∃ ht : Int, ht = 4 + (k1 : Int) := ⟨_, rfl⟩
  have hS0 : BgS w ms ht fr [] (.slice none 0 0) wl := by
    refine ⟨by rw [← hwl]; exact hx1.alloc _, ?_, ?_, Lay.own_nil _ _ _ _ _, fun k x hk => by simp at hk⟩
    · rw [← hwl, heap_alloc_old _ _ _ (by simp)]; exact heap_alloc_at _ _ _ _ rfl
    · rw [← hwl, hms, hht]; exact heap_alloc_at _ _ _ _ (by simp)
  rw [hwl]
  have HM := Lib.hid (And.intro hms hht)
  have HS0 := Lib.hid hS0
  have HXL := Lib.hid hS0.x
  clear hwl hms hht hS0 hx1
  go_upto_region 3 with (first | (go_at_call 77; refine (H2.out _ HXL.out).mono ?_; rintro e w1 ⟨rfl, rfl⟩))
  go_upto_region 4 with (first | (go_at_call 77; refine (H3.out _ HXL.out).mono ?_; rintro e w1 ⟨rfl, rfl⟩))
  clear H0 H1 H2 H3 A1
  go_wp2_with fail
  go_loopw [6] (fun s6 W => BgR w ms ht fr n s6 W) (fun s6 _ => toM n s6)
  case atStart => exact ⟨[], none, 0, by simp, rfl, HS0.out⟩
  case round =>
    obtain ⟨secs, As, cs, hi, rfl, hS⟩ := hrel
    clear HS0 HXL
    obtain ⟨i, hie⟩ : ∃ i, secs.length = i := ⟨_, rfl⟩
    rw [hie] at hi hS ⊢
    have HI := Lib.hid hie
    have HS := Lib.hid hS
    clear hie hS
    by_cases hlt : i < n
    case neg =>
      obtain rfl : i = n := by omega
      have hni : ¬ ((i : Int) < (i : Int)) := by omega
      have k0 := cell_of HS.out.r (i := 0) (u := .int .i64 0) rfl
      have k1 := cell_of HS.out.r (i := 1) (u := .int .i64 0) rfl
      have k2 := cell_of HS.out.r (i := 2) (u := .slice none 0 0) rfl
      have f0 := frozen_of HS.out.r 0
      have f1 := frozen_of HS.out.r 1
      have f2 := frozen_of HS.out.r 2
      have b0 := cell_of HS.out.b (i := 0) (u := .int .i64 ms) rfl
      have b1 := cell_of HS.out.b (i := 1) (u := .int .i64 ht) rfl
      have b2 := cell_of HS.out.b (i := 2) (u := .slice As i cs) rfl
      go_wp2_with fail
      have hrow := own_rowN (Q := fun j => w.heap.size + 2 ≤ j) HS.out.own (fun j hj _ => hj) (fun j hj _ => hj)
      obtain ⟨A9, c9, e9, hc9, hr9⟩ := hrow
      rw [HI.out] at e9 hc9 hr9
      obtain ⟨rfl, _, rfl⟩ := Value.slice.inj e9
      refine bodyPost_ret (v := .agg #[.int .i64 ms, .int .i64 ht, .slice As i cs]) (by simp [results, Tryz.results39, go_sem, *]) rfl ?_
      obtain ⟨hm1, hm2⟩ := HM.out
      refine ⟨⟨ms, ht, secs⟩, As, i, cs, rfl, ⟨by show 500 ≤ ms; omega, by show ms ≤ 2000; omega, by show 4 ≤ ht; omega, by show ht ≤ 100; omega, by show secs.length ≤ 4; have := HI.out; omega, ⟨fr, HS.out.ok⟩⟩, hc9, ?_, ?_⟩
      · refine Lay.row_mono (Lay.row_keep hr9 (by simp) fun j hj _ => ?_) fun j hj _ => by omega
        rw [heap_setCell_other _ ⟨w.heap.size, 2, none⟩ j _ (by show j ≠ w.heap.size; omega), heap_setCell_other _ ⟨w.heap.size, 1, none⟩ j _ (by show j ≠ w.heap.size; omega), heap_setCell_other _ ⟨w.heap.size, 0, none⟩ j _ (by show j ≠ w.heap.size; omega)]
      · exact ((HS.out.x.setCell (p := ⟨w.heap.size, 0, none⟩) (Nat.le_refl _) _).setCell (p := ⟨w.heap.size, 1, none⟩) (Nat.le_refl _) _).setCell (p := ⟨w.heap.size, 2, none⟩) (Nat.le_refl _) _
    have hlI : (i : Int) < (n : Int) := by omega
    obtain ⟨k4, hk4, hk4b⟩ := pk_nat l (4 + i) 2 (by omega)
    have H4 := Lib.hid (fun W hW => (show Calls Tryz.prog 77 #[.slice A m c, .int .i64 (4 + (i : Int)), .int .i64 2] W (fun e w' => e = .returned (.int .i64 (k4 : Int)) ∧ W = w') from by rw [← hk4]; exact HP.out W hW (4 + i) 2 _ _ (by omega) rfl (by omega) (by omega)))
    clear hk4
    go_upto_region 8 with (first | (go_at_call 77; refine (H4.out _ HS.out.x).mono ?_; rintro e w1 ⟨rfl, rfl⟩))
    obtain ⟨Bs, hBs⟩ : ∃ Bs, wr.heap.size = Bs := ⟨_, rfl⟩
    obtain ⟨ent, hent⟩ : ∃ ent : Int, 2 * (i : Int) + (k4 : Int) = ent := ⟨_, rfl⟩
    obtain ⟨fz, hfz⟩ : ∃ fz : Bool, decide (i < fr) = fz := ⟨_, rfl⟩
    obtain ⟨v0, hv0⟩ : ∃ v0 : Int, 10 - (i : Int) = v0 := ⟨_, rfl⟩
    obtain ⟨w1, hw1⟩ : ∃ w1, (wr.alloc (.cells #[.int .i64 v0] 3)).alloc (.cells #[.int .i64 ent, .bool fz, .slice (some ⟨Bs, 0, none⟩) 1 1, .slice none 0 0] 46) = w1 := ⟨_, rfl⟩
    obtain ⟨zs, hzs⟩ : ∃ zs, Bs + 1 = zs := ⟨_, rfl⟩
    rw [hBs, hent, hfz, hv0]
    rw [hw1, hzs]
    have HIN := Lib.hid (show InS w ms ht fr secs (.slice As i cs) Bs zs ent fz (.slice (some ⟨Bs, 0, none⟩) 1 1) (.slice none 0 0) [v0] [] w1 from by
      have hlow := HS.out.low
      rw [hBs] at hlow
      have hxv : Ext wr (wr.alloc (.cells #[.int .i64 v0] 3)) := (Ext.refl wr).alloc _
      have hx1 : Ext wr w1 := by rw [← hw1]; exact hxv.alloc _
      have ho : kInt.own 3 (wr.alloc (.cells #[.int .i64 v0] 3)) Bs (fun _ => False) (.slice (some ⟨wr.heap.size, 0, none⟩) 1 1) [v0] := own_new (by omega) rfl
      rw [hBs] at ho
      refine ⟨hlow.keep (by rw [← hBs]; exact hx1), ?_, ?_, Lay.own_nil _ _ _ _ _, ?_, ?_, ?_, by omega⟩
      · rw [← hw1]; exact heap_alloc_at _ _ _ _ (by simp; omega)
      · rw [← hw1]; exact Lay.own_ext ho ((Ext.refl _).alloc _)
      · intro e; have : some Bs = some zs := e; injection this; omega
      · intro e; cases e
      · intro j _ e; cases e)
    have HSO := Lib.hid (And.intro hent (And.intro hfz hv0))
    have HB := Lib.hid hBs
    have HK4 := Lib.hid (show k4 ≤ 1 by omega)
    clear hBs hent hfz hv0 hw1 hzs
    have HT8 := Lib.hid (fun W (hW : Ext w W) => (show Calls Tryz.prog 87 #[.slice A m c, .int .i64 (12 + 6 * (i : Int))] W (TextGet W) from by
      have h9 := HTX.out W hW (12 + 6 * i) (by omega)
      rw [show ((12 + 6 * i : Nat) : Int) = 12 + 6 * (i : Int) by omega] at h9
      exact h9))
    have HT8' := Lib.hid (show Calls Tryz.prog 87 #[.slice A m c, .int .i64 (12 + 6 * (i : Int))] w1 (fun e w2 => ∃ t A1 n1 c1 A2 n2 c2, e = .returned (.agg #[.slice A1 n1 c1, .slice A2 n2 c2]) ∧ OkT t ∧ GT w1.heap.size t (.agg #[.slice A1 n1 c1, .slice A2 n2 c2]) w2 ∧ Ext w1 w2 ∧ w2.heap[zs]? = some (.cells #[.int .i64 ent, .bool fz, .slice (some ⟨Bs, 0, none⟩) 1 1, .slice none 0 0] 46 (0, 0))) from by
      refine (HT8.out w1 HIN.out.low.x).mono ?_
      rintro e w2 ⟨t, v, rfl, hok, hgt, hx⟩
      have hg2 := hgt
      obtain ⟨A1, n1, c1, A2, n2, c2, rfl, h1, h2, h3, h4⟩ := hgt
      exact ⟨t, A1, n1, c1, A2, n2, c2, rfl, hok, hg2, hx, (hx.block _ HIN.out.lt).trans HIN.out.s⟩)
    clear HT8
    go_upto_region 9 with (first | (go_at_call 87; refine (HT8'.out).mono ?_; rintro e w2 ⟨t, A1, n1, c1, A2, n2, c2, rfl, hok, hg, hx, hh⟩; have k3 := cell_of hh (i := 3) (u := .slice none 0 0) rfl; have f3 := frozen_of hh 3; have hzl := lt_of_block hh; have hzn : ¬ zs = w2.heap.size := (by omega); have HG := Lib.hid hg; have HX := Lib.hid hx; have HH := Lib.hid hh; have HOK := Lib.hid hok; clear hg hx hh hok))
    obtain ⟨w3, hw3⟩ : ∃ w3, ((w2.setCell ⟨zs, 3, none⟩ (.slice (some ⟨w2.heap.size, 0, none⟩) 1 1)).alloc (.cells #[.slice A1 n1 c1, .slice A2 n2 c2] 53)) = w3 := ⟨_, rfl⟩
    have hin3 := HIN.out.firstT HX.out HG.out
    obtain ⟨zt, hzt⟩ : ∃ zt, w2.heap.size = zt := ⟨_, rfl⟩
    rw [hzt] at hw3 hin3 ⊢
    rw [hw3] at hin3 ⊢
    have HIN3 := Lib.hid hin3
    clear hin3 hw3 hzt HIN HX HG HH HT8' hzl hzn k3 f3 H4
    obtain ⟨k8, hk8, hk8b⟩ := pk_nat l (8 + i) 3 (by omega)
    have H8 := Lib.hid (fun W hW => (show Calls Tryz.prog 77 #[.slice A m c, .int .i64 (8 + (i : Int)), .int .i64 3] W (fun e w' => e = .returned (.int .i64 (k8 : Int)) ∧ W = w') from by rw [← hk8]; exact HP.out W hW (8 + i) 3 _ _ (by omega) rfl (by omega) (by omega)))
    clear hk8
    go_wp2_with fail
    go_loopw [8] (fun s8 W => InR w ms ht fr secs (.slice As i cs) Bs zs ent fz v0 i s8 W) (fun s8 _ => toM 10 s8)
    case atStart => exact ⟨0, _, _, _, _, _, _, by omega, rfl, fun h => absurd rfl h, rfl, rfl, fun t ht => by (simp only [List.mem_singleton] at ht; subst ht; exact HOK.out), HIN3.out⟩
    case round =>
      clear HIN3 HS HOK
      rename World => wi
      obtain ⟨k, Av, Bt, cv, dt, vers, texts, hk2, rfl, hkf, hve, htl, hto, hIn⟩ := hrel
      have HVE := Lib.hid hve
      have HTL := Lib.hid htl
      have HTO := Lib.hid hto
      have HKF := Lib.hid hkf
      have HIN := Lib.hid hIn
      have s0 := cell_of hIn.s (i := 0) (u := .int .i64 ent) rfl
      have s1 := cell_of hIn.s (i := 1) (u := .bool fz) rfl
      have s2 := cell_of hIn.s (i := 2) (u := .slice Av (k + 1) cv) rfl
      have s3 := cell_of hIn.s (i := 3) (u := .slice Bt (k + 1) dt) rfl
      have f2 := frozen_of hIn.s 2
      have f3 := frozen_of hIn.s 3
      have hzl := hIn.lt
      clear hkf hve htl hto hIn
      by_cases hkk : k < k8 ∧ fz = true
      case neg =>
        have HSC := Lib.hid (show SecOk fr secs.length ⟨ent, fz, vers, texts⟩ from by
          obtain ⟨e1, e2, e3⟩ := HSO.out
          rw [HI.out]
          refine ⟨⟨by show 2 * (i : Int) ≤ ent; omega, by show ent ≤ 2 * (i : Int) + 1; have := HK4.out; omega⟩, e2.symm, ⟨k, hk2, fun h0 => ?_, by rw [e3]; exact HVE.out, HTL.out⟩, HTO.out⟩
          have := HKF.out h0
          rw [← e2] at this
          simpa using this)
        obtain ⟨A5, c5, w5, hrun, hb5, hS5⟩ := HIN.out.fin (by have := HI.out; omega) HSC.out
        rw [HI.out] at hrun hS5
        have HREL := Lib.hid (show BgR w ms ht fr n (.int .i64 ((i : Int) + 1)) (w5.setCell ⟨w.heap.size + 1, 2, none⟩ (.slice A5 (i + 1) c5)) from
          ⟨secs ++ [⟨ent, fz, vers, texts⟩], A5, c5, by rw [List.length_append, HI.out]; exact hlt, by rw [List.length_append, HI.out]; rfl, by rw [List.length_append, HI.out]; exact hS5⟩)
        have b2 := cell_of HIN.out.low.b (i := 2) (u := .slice As i cs) rfl
        have hbl : w.heap.size + 1 < wi.heap.size := lt_of_block HIN.out.low.b
        have hbn : ¬ w.heap.size + 1 = wi.heap.size := by omega
        have b5 := cell_of hb5 (i := 2) (u := .slice As i cs) rfl
        have g5 := frozen_of hb5 2
        have hzn : ¬ zs = wi.heap.size := by omega
        clear hS5 hb5 hk2
        by_cases hk9 : k < k8
        · have hf9 : fz = false := by
            cases fz
            · rfl
            · exact absurd ⟨hk9, rfl⟩ hkk
          subst hf9
          have gk : decide ((k : Int) < (k8 : Int)) = true := by rw [decide_eq_true_eq]; omega
          have gk2 : decide (k < k8) = true := by simpa using hk9
          clear hkk
          go_wp2_with (first
            | (go_at_call 77; refine (H8.out _ HIN.out.low.x).mono ?_; rintro e w1 ⟨rfl, rfl⟩)
            | (at_builtin; refine wpList_append_run (s := .tmp 86) (x := .tmp 88) hrun rfl rfl rfl rfl rfl ?_))
          go_roundw
          case rel => exact HREL.out
          case measure => simp only [toM]; omega
        · have gk : decide ((k : Int) < (k8 : Int)) = false := by rw [decide_eq_false_iff_not]; omega
          have gk2 : decide (k < k8) = false := by simpa using hk9
          clear hkk
          go_wp2_with (first
            | (go_at_call 77; refine (H8.out _ HIN.out.low.x).mono ?_; rintro e w1 ⟨rfl, rfl⟩)
            | (at_builtin; refine wpList_append_run (s := .tmp 86) (x := .tmp 88) hrun rfl rfl rfl rfl rfl ?_))
          go_roundw
          case rel => exact HREL.out
          case measure => simp only [toM]; omega
      obtain ⟨hk8', hfz⟩ := hkk
      subst hfz
      have hkI : (k : Int) < (k8 : Int) := by omega
      have gk : decide ((k : Int) < (k8 : Int)) = true := by simpa using hk8'
      have gk2 : decide (k < k8) = true := by simpa using hk8'
      go_upto_region 12 with (first | (go_at_call 77; refine (H8.out _ HIN.out.low.x).mono ?_; rintro e w1 ⟨rfl, rfl⟩))
      have HVL := Lib.hid (show vers.length = k + 1 by rw [HVE.out]; simp)
      obtain ⟨A5, c5, w5, hrun, hz5, hin5⟩ := HIN.out.appV (30 + 7 * (i : Int) - 3 * (k : Int)) (by have := HVL.out; omega)
      rw [HVL.out] at hrun hin5
      have z2 := cell_of hz5 (i := 2) (u := .slice Av (k + 1) cv) rfl
      have y2 := frozen_of hz5 2
      have hzn : ¬ zs = wi.heap.size := by omega
      have HIN5 := Lib.hid hin5
      clear hin5 hz5
      go_upto_region 13 with (first | (at_builtin; refine wpList_append_run (s := .tmp 62) (x := .tmp 69) hrun rfl rfl rfl rfl rfl ?_))
      obtain ⟨w6, hw6⟩ : ∃ w6, w5.setCell ⟨zs, 2, none⟩ (.slice A5 (k + 1 + 1) c5) = w6 := ⟨_, rfl⟩
      rw [hw6] at HIN5 ⊢
      clear hrun hw6 z2 y2 hzn s0 s1 s2 s3 f2 f3 hzl H8 HIN
      have hzl := HIN5.out.lt
      have hzn : ¬ zs = w6.heap.size := by omega
      have s3 := cell_of HIN5.out.s (i := 3) (u := .slice Bt (k + 1) dt) rfl
      have HT13 := Lib.hid (fun W (hW : Ext w6 W) => (show Calls Tryz.prog 87 #[.slice A m c, .int .i64 (15 + 6 * (i : Int) + 7 * (k : Int))] W (fun e w2 => ∃ t A1 n1 c1 A2 n2 c2, e = .returned (.agg #[.slice A1 n1 c1, .slice A2 n2 c2]) ∧ OkT t ∧ GT w6.heap.size t (.agg #[.slice A1 n1 c1, .slice A2 n2 c2]) w2 ∧ Ext w6 w2) from by
        have h9 := HTX.out W (HIN5.out.low.x.trans hW) (15 + 6 * i + 7 * k) (by omega)
        rw [show ((15 + 6 * i + 7 * k : Nat) : Int) = 15 + 6 * (i : Int) + 7 * (k : Int) by omega] at h9
        refine h9.mono ?_
        rintro e w2 ⟨t, v, rfl, hok, hgt, hx⟩
        have hg2 := hgt.low hW.lt
        obtain ⟨A1, n1, c1, A2, n2, c2, rfl, h1, h2, h3, h4⟩ := hgt
        exact ⟨t, A1, n1, c1, A2, n2, c2, rfl, hok, hg2, hW.trans hx⟩))
      have g6 : IntKind.i64.wrap (6 * (i : Int)) = 6 * (i : Int) := IntWalk.i64_in _ (by omega)
      have g15 : IntKind.i64.wrap (15 + 6 * (i : Int)) = 15 + 6 * (i : Int) := IntWalk.i64_in _ (by omega)
      have g7 : IntKind.i64.wrap (7 * (k : Int)) = 7 * (k : Int) := IntWalk.i64_in _ (by omega)
      have g80 : IntKind.i64.wrap (15 + 6 * (i : Int) + 7 * (k : Int)) = 15 + 6 * (i : Int) + 7 * (k : Int) := IntWalk.i64_in _ (by omega)
      go_region_law (first
        | (go_simp; go_at_call 87; refine (HT13.out _ ((Ext.refl _).drew)).mono ?_; rintro e w1 ⟨t9, B1, m1, d1, B2, m2, d2, rfl, hok9, hg9, hx9⟩; obtain ⟨A7, c7, w7, hrun, hz7, hin7⟩ := HIN5.out.appT hx9 hg9 (by have := HTL.out; omega); have c01 := cell_of ((hx9.block _ HIN5.out.lt).trans HIN5.out.s) (i := 3) (u := .slice Bt (k + 1) dt) rfl; have c02 := cell_of ((((Ext.refl w1).alloc (.cells #[.slice B1 m1 d1, .slice B2 m2 d2] 53)).block _ (lt_of_block ((hx9.block _ HIN5.out.lt).trans HIN5.out.s))).trans ((hx9.block _ HIN5.out.lt).trans HIN5.out.s)) (i := 3) (u := .slice Bt (k + 1) dt) rfl; have z3 := cell_of hz7 (i := 3) (u := .slice Bt (k + 1) dt) rfl; have y3 := frozen_of hz7 3; rw [HTL.out] at hrun hin7; have HIN7 := Lib.hid hin7; have HRUN := Lib.hid hrun; have HOK9 := Lib.hid hok9; clear hok9 hg9 hx9 hrun hin7 hz7; simp only [])
        | (refine gstep_append_run (s := .tmp 73) (x := .tmp 82) HRUN.out rfl rfl rfl rfl rfl ?_))
      all_goals
        go_wp2
        refine ⟨⟨k + 1, A5, A7, c5, c7, vers ++ [30 + 7 * (i : Int) - 3 * (k : Int)], texts ++ [t9], by omega, rfl, fun _ => rfl, ?_, ?_, fun t ht => ?_, HIN7.out⟩, by simp only [toM]; omega⟩
        · rw [HVE.out, List.range_succ, List.map_append]; rfl
        · rw [List.length_append, HTL.out]; rfl
        · rcases List.mem_append.1 ht with ht | ht
          · exact HTO.out t ht
          · simp only [List.mem_singleton] at ht; subst ht; exact HOK9.out
end Go.Proofs.YtdbnddmncbjobaaGreatDoor
