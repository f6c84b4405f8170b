/- glyph.Check at texts that are right: walked. -/
import Derived.Test.YtdbnddmncbjobaaGreatDoorQam
namespace Go.Proofs.YtdbnddmncbjobaaGreatDoor
section
open Go Go.RowKit

theorem dwl {γ : Type} (xs : List γ) {i : Nat} {p : γ} (h : xs[i]? = some p) : xs.drop i = p :: xs.drop (i + 1) := by
  have hl := (List.getElem?_eq_some_iff.1 h).1
  rw [List.drop_eq_getElem_cons hl]
  congr 1
  rw [List.getElem?_eq_getElem hl] at h
  exact Option.some.inj h
/-- The outer loop: i parts are right, k notes were met. -/
def ChO (W : World) (t : Tx) (s4 s33 : Value) (w' : World) : Prop := ∃ (i k : Nat), i ≤ (t.paras ++ t.notes).length ∧ k ≤ 500 * i ∧ s33 = .int .i64 i ∧ s4 = .int .i64 k ∧ Ext W w' ∧
  chkPs t.notes.length (t.paras.length - i) ((t.paras ++ t.notes).drop i) k = .inr t.notes.length
/-- The inner loop: j words are right, k notes were met. -/
def ChI (W : World) (b : Bool) (nn : Int) (p : List Wd) (k0 : Nat) (k1 : Int) (s4 s40 : Value) (w' : World) : Prop := ∃ (j k : Nat), j ≤ p.length ∧ k ≤ k0 + j ∧ s40 = .int .i64 j ∧ s4 = .int .i64 k ∧ Ext W w' ∧
  chkWs b nn (p.drop j) k = .inr k1
theorem chkPs_ne0 (nn : Int) : ∀ (ps : List (List Wd)) (b : Nat) (k : Int), chkPs nn b ps k ≠ .inl 0 := by
  intro ps
  induction ps with
  | nil => intro b k h; simp [chkPs] at h
  | cons a r ih =>
    intro b k h
    simp only [chkPs] at h
    split at h
    · next e' he' =>
      injection h with h
      subst h
      have : ∀ (p : List Wd) (bb : Bool) (k : Int), chkWs bb nn p k ≠ .inl 0 := by
        intro p
        induction p with
        | nil => intro bb k h; simp [chkWs] at h
        | cons w r ih2 =>
          intro bb k h
          simp only [chkWs] at h
          split at h
          · injection h with h; cases h
          · split at h
            · injection h with h; cases h
            · split at h
              · split at h
                · injection h with h; cases h
                · exact ih2 _ _ h
              · exact ih2 _ _ h
      exact this _ _ _ he'
    · exact ih _ _ h
theorem chkPs_inv {t : Tx} (h : chkT t = 0) : chkPs t.notes.length t.paras.length (t.paras ++ t.notes) 0 = .inr t.notes.length := by
  have hc := chkT_val h
  unfold chkT at h
  rw [if_neg, if_neg] at h
  · split at h
    · next e he =>
      exfalso
      subst h
      exact chkPs_ne0 _ _ _ _ he
    · next k hk =>
      rw [hk]
      split at h
      · cases h
      · next hn => rw [Decidable.of_not_not hn]
  · intro hx
    obtain ⟨p, hp, hd⟩ := List.any_eq_true.1 hx
    have := hc.len p hp
    have := of_decide_eq_true hd
    omega
  · rintro (hx | hx | hx)
    · have := hc.np; omega
    · have := hc.nn; omega
    · obtain ⟨p, hp, hd⟩ := List.any_eq_true.1 hx
      have := hc.len p hp
      have := of_decide_eq_true hd
      omega
set_option maxHeartbeats 4000000 in
set_option maxRecDepth 100000 in
theorem check_any (P : Nat → Prop) (w : World) (t : Tx) (A A' : Option Addr) (n n' c c' : Nat) (h1 : kWs.row w P A n t.paras) (h2 : kWs.row w P A' n' t.notes) (hc : chkT t = 0) (hL : EnvW w) :
    Calls Tryz.prog 184 #[.agg #[.slice A n c, .slice A' n' c']] w (fun e w' => e = .returned (.int .i64 0) ∧ Ext w w') := by
  have hv := chkT_val hc
  have HE1 := Lib.hid (Lay.row_len h1)
  have HE2 := Lib.hid (Lay.row_len h2)
  have a1' : ¬ (100 : Int) < (n : Int) := by have := hv.np; have := HE1.out; omega
  have a2' : ¬ (100 : Int) < (n' : Int) := by have := hv.nn; have := HE2.out; omega
  have HC := Lib.hid (fun X (hx : Ext w X) g hg g0 g1 => cat72 kWs rfl P X g A A' n n' c c' _ _ (Lay.row_ext h1 hx) (Lay.row_ext h2 hx) (by omega) (by omega) hg g0 g1)
  have HLW := Lib.hid hL
  have hlen : (t.paras ++ t.notes).length ≤ 200 := by have := hv.np; have := hv.nn; rw [List.length_append]; omega
  have HQ1 := Lib.hid (show (t.paras ++ t.notes).any (fun p => decide (500 < p.length)) = false by
    rw [List.any_eq_false]; intro p hp hd; have := hv.len p hp; have := of_decide_eq_true hd; omega)
  have HQ2 := Lib.hid (show (t.paras ++ t.notes).any (fun p => decide (p.length = 0)) = false by
    rw [List.any_eq_false]; intro p hp hd; have := hv.len p hp; have := of_decide_eq_true hd; omega)
  have HV := Lib.hid hv
  have HP := Lib.hid (chkPs_inv hc)
  clear h1 h2 hL hc hv
  go_enter Tryz.func184, Tryz.ntmps184
  go_wp2_with (first | (go_at_call 72; refine (HC.out _ (((Ext.refl w).alloc _).alloc _) _ (by simp) (by go_simp) (by go_simp)).mono ?_; rintro e w1 ⟨A3, c3, rfl, ho, hx⟩; have hc0 := (hx.cells.1 w.heap.size 0 (by simp; omega)).trans (by go_simp : _ = some (.slice A n c)); have hc1 := (hx.cells.1 w.heap.size 1 (by simp; omega)).trans (by go_simp : _ = some (.slice A' n' c')); have HO := Lib.hid ho; have HX := Lib.hid ((((Ext.refl w).alloc _).alloc _).trans hx); clear ho hx))
  obtain ⟨Ar, cr, er, _, hrow⟩ := Lay.own_row HO.out
  injection er with er1 er2 er3
  subst er1 er3
  rw [List.length_append] at hlen hrow
  have HRW := Lib.hid hrow
  refine (parts_many _ w1 A3 _ c3 _ hrow (by omega)).mono ?_
  rintro e w2 ⟨rfl, hx2⟩
  clear hrow er2
  have hc0' := (hx2.cells.1 w.heap.size 0 (World.block_lt_of_cell? w1 _ hc0)).trans hc0
  have hc1' := (hx2.cells.1 w.heap.size 1 (World.block_lt_of_cell? w1 _ hc0)).trans hc1
  have HX2 := Lib.hid (HX.out.trans hx2)
  have HRW2 := Lib.hid (Lay.row_ext HRW.out hx2)
  clear hc0 hc1 hx2
  rw [HQ1.out]
  go_wp2_with fail
  refine (parts_none _ w2 A3 _ c3 _ HRW2.out (by omega)).mono ?_
  rintro e w3 ⟨rfl, hx3⟩
  have hc0 := (hx3.cells.1 w.heap.size 0 (World.block_lt_of_cell? w2 _ hc0')).trans hc0'
  have hc1 := (hx3.cells.1 w.heap.size 1 (World.block_lt_of_cell? w2 _ hc0')).trans hc1'
  have HX3 := Lib.hid (HX2.out.trans hx3)
  have HRW3 := Lib.hid (Lay.row_ext HRW2.out hx3)
  clear hc0' hc1' hx3
  rw [HQ2.out]
  go_wp2_with fail
  go_loopw [4, 33] (fun s4 s33 w' => ChO w3 t s4 s33 w') (fun _ s33 _ => toM (t.paras.length + t.notes.length) s33)
  case atStart => exact ⟨0, 0, by omega, by omega, rfl, rfl, Ext.refl _, HP.out⟩
  case round =>
    obtain ⟨i, k, hi, hk, rfl, rfl, hx, heq⟩ := hrel
    have hc0r := (hx.cells.1 w.heap.size 0 (World.block_lt_of_cell? w3 _ hc0)).trans hc0
    have hc1r := (hx.cells.1 w.heap.size 1 (World.block_lt_of_cell? w3 _ hc0)).trans hc1
    have HXR := Lib.hid (HX3.out.trans hx)
    have HRWr := Lib.hid (Lay.row_ext HRW3.out hx)
    have HX3r := Lib.hid hx
    have HEQ := Lib.hid heq
    clear hx heq hc0 hc1
    rw [List.length_append] at hi
    by_cases hlt : i < t.paras.length + t.notes.length
    case neg =>
      have hni : ¬ ((i : Int) < (t.paras.length : Int) + (t.notes.length : Int)) := by omega
      obtain rfl : k = n' := by
        have h := HEQ.out
        rw [List.drop_of_length_le (by rw [List.length_append]; omega), chkPs] at h
        injection h with h
        have := HE2.out
        omega
      go_wp2_with fail
      go_ret
      exact ⟨rfl, HXR.out⟩
    have hI : (i : Int) < (t.paras.length : Int) + (t.notes.length : Int) := by omega
    obtain ⟨p, hp⟩ : ∃ p, (t.paras ++ t.notes)[i]? = some p := ⟨_, List.getElem?_eq_getElem (by rw [List.length_append]; omega)⟩
    obtain ⟨k1, hw1, hw2⟩ : ∃ k1, chkWs (decide (0 < t.paras.length - i)) t.notes.length p k = .inr k1 ∧ chkPs t.notes.length (t.paras.length - (i + 1)) ((t.paras ++ t.notes).drop (i + 1)) k1 = .inr t.notes.length := by
      have h := HEQ.out
      rw [dwl _ hp] at h
      simp only [chkPs] at h
      split at h
      · cases h
      · next k1 hk1 => exact ⟨k1, hk1, by rw [Nat.sub_sub] at h; exact h⟩
    have hpl := (HV.out.len p (List.mem_of_getElem? hp)).2
    obtain ⟨gb, off, cs, rfl, hgb, _, hrep, hcell⟩ := Lay.row_at HRWr.out hp
    obtain ⟨Ap, cp, rfl, _, hrowp⟩ := kWs_rep.1 hrep
    have hcl : wr.cell? ⟨gb, off + i, none⟩ = some (.slice Ap p.length cp) := by
      have := hcell 0 _ rfl
      rwa [kWs_sz, Nat.mul_one, Nat.add_zero] at this
    have HRP := Lib.hid hrowp
    have HW1 := Lib.hid hw1
    have HW2 := Lib.hid hw2
    have HB := Lib.hid (show (0 < t.paras.length - i) = (i < n) from propext (by have := HE1.out; omega))
    clear hp hw1 hw2 hcell hrep hrowp
    go_wp2_with fail
    go_loopw [4, 40] (fun s4 s40 w' => ChI wr (decide (i < n)) t.notes.length p k k1 s4 s40 w') (fun _ s40 _ => toM p.length s40)
    case atStart => exact ⟨0, k, by omega, by omega, rfl, rfl, Ext.refl _, by have := HW1.out; simp only [HB.out] at this; exact this⟩
    case round =>
      obtain ⟨j, k', hj, hk', rfl, rfl, hxi, heqi⟩ := hrel
      have hc0i := (hxi.cells.1 w.heap.size 0 (World.block_lt_of_cell? _ _ hc0r)).trans hc0r
      have hc1i := (hxi.cells.1 w.heap.size 1 (World.block_lt_of_cell? _ _ hc0r)).trans hc1r
      have hbi := World.block_lt_of_cell? _ _ hc0i
      have HXI := Lib.hid (HXR.out.trans hxi)
      have HXJ := Lib.hid hxi
      have HX3j := Lib.hid (HX3r.out.trans hxi)
      have HRPi := Lib.hid (Lay.row_ext HRP.out hxi)
      have HEQi := Lib.hid heqi
      clear hc0r hc1r hcl hxi heqi
      by_cases hjl : j < p.length
      case neg =>
        obtain rfl : j = p.length := by omega
        have hni : ¬ ((p.length : Int) < (p.length : Int)) := by omega
        have HK1 := Lib.hid (show k1 = (k' : Int) by
          have h := HEQi.out
          rw [List.drop_length, chkWs] at h
          injection h with h; exact h.symm)
        go_wp2_with fail
        go_roundw
        case rel =>
          refine ⟨i + 1, k', by rw [List.length_append]; omega, by omega, by simp, rfl, HX3j.out, ?_⟩
          have := HW2.out
          rwa [HK1.out] at this
        case measure => simp only [toM]; omega
      have hJ : (j : Int) < (p.length : Int) := by omega
      obtain ⟨x, hx⟩ : ∃ x, p[j]? = some x := ⟨_, List.getElem?_eq_getElem hjl⟩
      obtain ⟨v1, v2, v3, v4⟩ := chkWs_inv (by have h := HEQi.out; rw [dwl _ hx] at h; exact h)
      obtain ⟨g2, o2, cs, rfl, hg2, _, hrep, hcell⟩ := Lay.row_at HRPi.out hx
      rw [kWd_rep] at hrep
      subst hrep
      have c0 := hcell 0 _ rfl
      have c1 := hcell 1 _ rfl
      have c2 := hcell 2 _ rfl
      have c3' := hcell 3 _ rfl
      rw [kWd_sz] at c0 c1 c2 c3'
      rw [Nat.add_zero] at c0
      have HV1 := Lib.hid v1
      have HVA := Lib.hid (fun (S : List UInt8) X (hX : Ext w X) => gvalid_any ⟨S.toArray⟩ X (HLW.out.ext hX))
      clear hcell hx v1
      obtain ⟨x1, x2, x3, x4⟩ := x
      simp only at v2 v3 v4 c0 c1 c2 c3'
      have HVX := HVA.out x1
      have hv1 := HV1.out
      simp only at hv1
      rw [hv1] at HVX
      have HVYtdbnddmncbjobaaGreatDoor := Lib.hid HVX
      clear HVX hv1
      rcases v2 with rfl | v2
      · rcases v3 with rfl | rfl
        · rcases v4 with ⟨e4, e5⟩ | ⟨e4, e5, e6, e7, e8⟩
          · subst e4
            have HEN := Lib.hid e5
            clear e5
            go_wp2_with (first | (go_at_call 218; refine (HVYtdbnddmncbjobaaGreatDoor.out _ (HXI.out.alloc _)).mono ?_; rintro e w5 ⟨rfl, rfl⟩))
            go_roundw
            case rel => exact ⟨j + 1, k', by omega, by omega, by simp, rfl, HXJ.out.alloc _, HEN.out⟩
            case measure => simp only [toM]; omega
          · have hin := of_decide_eq_true e5
            have h1' : ¬ ((n : Int) ≤ (i : Int)) := by omega
            have h2' : ¬ ((n' : Int) < (k' : Int) + 1) := by have := HE2.out; omega
            have h3' : ¬ ((k' : Int) + 1 = 0) := by omega
            have HEN := Lib.hid e8
            subst e6
            clear e8 e7 e5 hin e4
            go_wp2_with (first | (go_at_call 218; refine (HVYtdbnddmncbjobaaGreatDoor.out _ (HXI.out.alloc _)).mono ?_; rintro e w5 ⟨rfl, rfl⟩))
            go_roundw
            case rel => exact ⟨j + 1, k' + 1, by omega, by omega, by simp, by simp, HXJ.out.alloc _, HEN.out⟩
            case measure => simp only [toM]; omega
        · rcases v4 with ⟨e4, e5⟩ | ⟨e4, e5, e6, e7, e8⟩
          · subst e4
            have HEN := Lib.hid e5
            clear e5
            go_wp2_with (first | (go_at_call 218; refine (HVYtdbnddmncbjobaaGreatDoor.out _ (HXI.out.alloc _)).mono ?_; rintro e w5 ⟨rfl, rfl⟩))
            go_roundw
            case rel => exact ⟨j + 1, k', by omega, by omega, by simp, rfl, HXJ.out.alloc _, HEN.out⟩
            case measure => simp only [toM]; omega
          · have hin := of_decide_eq_true e5
            have h1' : ¬ ((n : Int) ≤ (i : Int)) := by omega
            have h2' : ¬ ((n' : Int) < (k' : Int) + 1) := by have := HE2.out; omega
            have h3' : ¬ ((k' : Int) + 1 = 0) := by omega
            have HEN := Lib.hid e8
            subst e6
            clear e8 e7 e5 hin e4
            go_wp2_with (first | (go_at_call 218; refine (HVYtdbnddmncbjobaaGreatDoor.out _ (HXI.out.alloc _)).mono ?_; rintro e w5 ⟨rfl, rfl⟩))
            go_roundw
            case rel => exact ⟨j + 1, k' + 1, by omega, by omega, by simp, by simp, HXJ.out.alloc _, HEN.out⟩
            case measure => simp only [toM]; omega
      · by_cases hx2 : x2 = []
        · subst hx2
          exact absurd v2 (by decide)
        have HVY := HVA.out x2
        simp only [v2] at HVY
        have HVYY := Lib.hid HVY
        clear HVY v2
        rcases v3 with rfl | rfl
        · rcases v4 with ⟨e4, e5⟩ | ⟨e4, e5, e6, e7, e8⟩
          · subst e4
            have HEN := Lib.hid e5
            clear e5
            go_wp2_with (first | (go_at_call 218; first | refine (HVYtdbnddmncbjobaaGreatDoor.out _ (HXI.out.alloc _)).mono ?_ | refine (HVYY.out _ (HXI.out.alloc _)).mono ?_; rintro e w5 ⟨rfl, rfl⟩))
            go_roundw
            case rel => exact ⟨j + 1, k', by omega, by omega, by simp, rfl, HXJ.out.alloc _, HEN.out⟩
            case measure => simp only [toM]; omega
          · have hin := of_decide_eq_true e5
            have h1' : ¬ ((n : Int) ≤ (i : Int)) := by omega
            have h2' : ¬ ((n' : Int) < (k' : Int) + 1) := by have := HE2.out; omega
            have h3' : ¬ ((k' : Int) + 1 = 0) := by omega
            have HEN := Lib.hid e8
            subst e6
            clear e8 e7 e5 hin e4
            go_wp2_with (first | (go_at_call 218; first | refine (HVYtdbnddmncbjobaaGreatDoor.out _ (HXI.out.alloc _)).mono ?_ | refine (HVYY.out _ (HXI.out.alloc _)).mono ?_; rintro e w5 ⟨rfl, rfl⟩))
            go_roundw
            case rel => exact ⟨j + 1, k' + 1, by omega, by omega, by simp, by simp, HXJ.out.alloc _, HEN.out⟩
            case measure => simp only [toM]; omega
        · rcases v4 with ⟨e4, e5⟩ | ⟨e4, e5, e6, e7, e8⟩
          · subst e4
            have HEN := Lib.hid e5
            clear e5
            go_wp2_with (first | (go_at_call 218; first | refine (HVYtdbnddmncbjobaaGreatDoor.out _ (HXI.out.alloc _)).mono ?_ | refine (HVYY.out _ (HXI.out.alloc _)).mono ?_; rintro e w5 ⟨rfl, rfl⟩))
            go_roundw
            case rel => exact ⟨j + 1, k', by omega, by omega, by simp, rfl, HXJ.out.alloc _, HEN.out⟩
            case measure => simp only [toM]; omega
          · have hin := of_decide_eq_true e5
            have h1' : ¬ ((n : Int) ≤ (i : Int)) := by omega
            have h2' : ¬ ((n' : Int) < (k' : Int) + 1) := by have := HE2.out; omega
            have h3' : ¬ ((k' : Int) + 1 = 0) := by omega
            have HEN := Lib.hid e8
            subst e6
            clear e8 e7 e5 hin e4
            go_wp2_with (first | (go_at_call 218; first | refine (HVYtdbnddmncbjobaaGreatDoor.out _ (HXI.out.alloc _)).mono ?_ | refine (HVYY.out _ (HXI.out.alloc _)).mono ?_; rintro e w5 ⟨rfl, rfl⟩))
            go_roundw
            case rel => exact ⟨j + 1, k' + 1, by omega, by omega, by simp, by simp, HXJ.out.alloc _, HEN.out⟩
            case measure => simp only [toM]; omega
end
section
open Go Go.RowKit

variable {β : Type}
theorem chkWs_nt (b : Bool) (nn : Int) : ∀ (p : List Wd) (k k' : Int), 0 ≤ k → chkWs b nn p k = .inr k' → k ≤ k' ∧ ∀ w ∈ p, 0 ≤ w.nt ∧ (w.nt = 0 ∨ w.nt ≤ nn) := by
  intro p
  induction p with
  | nil => intro k k' _ h; simp only [chkWs] at h; injection h with h; exact ⟨by omega, fun w hw => by simp at hw⟩
  | cons a r ih =>
    intro k k' hk h
    obtain ⟨_, _, _, h4⟩ := chkWs_inv h
    rcases h4 with ⟨e, h5⟩ | ⟨e, _, e2, e3, h5⟩
    · obtain ⟨h6, h7⟩ := ih _ _ hk h5
      refine ⟨h6, fun w hw => ?_⟩
      rcases List.mem_cons.1 hw with rfl | hw
      · omega
      · exact h7 w hw
    · obtain ⟨h6, h7⟩ := ih _ _ (by omega) h5
      refine ⟨by omega, fun w hw => ?_⟩
      rcases List.mem_cons.1 hw with rfl | hw
      · omega
      · exact h7 w hw
theorem chkPs_nt (nn : Int) : ∀ (ps : List (List Wd)) (b : Nat) (k k' : Int), 0 ≤ k → chkPs nn b ps k = .inr k' → ∀ p ∈ ps, ∀ w ∈ p, 0 ≤ w.nt ∧ (w.nt = 0 ∨ w.nt ≤ nn) := by
  intro ps
  induction ps with
  | nil => intro b k k' _ _ p hp; simp at hp
  | cons a r ih =>
    intro b k k' hk h p hp
    simp only [chkPs] at h
    split at h
    · cases h
    · next k1 hk1 =>
      obtain ⟨h6, h7⟩ := chkWs_nt _ _ _ _ _ hk hk1
      rcases List.mem_cons.1 hp with rfl | hp
      · exact h7
      · exact ih _ _ _ (by omega) h p hp
theorem wsv_of {t : Tx} (h : chkT t = 0) : ∀ p ∈ t.paras ++ t.notes, WsV p ∧ p.length ≤ 500 := fun p hp => by
  have hv := chkT_val h
  have hn := chkPs_nt _ _ _ _ _ (Int.le_refl 0) (chkPs_inv h) p hp
  refine ⟨fun w hw => ?_, (hv.len p hp).2⟩
  have h1 := hv.ok p hp w hw
  have h2 := hn w hw
  have h3 := hv.nn
  unfold validW at h1
  have := of_decide_eq_true h1
  omega
/-- append of a row that lies in blocks apart. -/
theorem own_appR {k : Lay β} {Pr : Program} {t e : TypeId} {z : Value} {bytes : Nat} (ht : Pr.underlying t = some (.slice e)) (hinfo : (Pr.info? e).map (fun i => (i.zero, i.size, i.bytes)) = some (some z, k.sz, bytes)) (hzs : z.cells.size = k.sz) (hsz : 0 < k.sz) (hby : bytes ≤ 1000)
    {X : World} {base : Nat} {P : Nat → Prop} {v : Value} {xs ys : List β} (h : k.own e X base P v xs) {A : Option Addr} {m : Nat} (hr : k.row X (fun j => P j ∧ v.ownBlock ≠ some j) A m ys) (c : Nat) (hm : xs.length + m ≤ 100000000) (hbase : base ≤ X.heap.size) :
    ∃ A' c' w', (Builtin.append_ #[t, t] t #[v, .slice A m c]).run Pr X = .ok (.slice A' (xs.length + m) c') w' ∧ k.own e w' base P (.slice A' (xs.length + m) c') (xs ++ ys) ∧ (∀ B, B ≤ base → Below B X w') ∧
      (∀ j, j < X.heap.size → v.ownBlock ≠ some j → w'.heap[j]? = X.heap[j]?) ∧ X.heap.size ≤ w'.heap.size ∧ (∀ j, (Value.slice A' (xs.length + m) c').ownBlock = some j → v.ownBlock = some j ∨ X.heap.size ≤ j) := by
  obtain ⟨ds, h1, h2, h3, h4, h5⟩ := hr
  exact Lay.own_append (e := e) ht hinfo hzs hsz hby h (ds' := ds) (ys := ys) h3 h2 h5 c hm hbase
theorem setsP_take (m : Int) : ∀ (ps : List (List Wd)) (f : Int) (i : Nat) (p : List Wd), ps[i]? = some p → setsP m (ps.take (i + 1)) f = setsP m (ps.take i) f ++ [setP p (f + (((ps.take i).map List.length).sum : Nat)) m] := by
  intro ps
  induction ps with
  | nil => intro f i p h; simp at h
  | cons a r ih =>
    intro f i p h
    cases i with
    | zero => injection h with h; subst h; simp [setsP]
    | succ i =>
      have := ih (f + a.length) i p h
      simp only [List.take_succ_cons, setsP, List.cons_append, List.map_cons, List.sum_cons]
      rw [this, Int.add_assoc, ← Int.natCast_add]
theorem sumL_take (ps : List (List Wd)) {i : Nat} {p : List Wd} (h : ps[i]? = some p) : ((ps.take (i + 1)).map List.length).sum = ((ps.take i).map List.length).sum + p.length := by
  rw [List.take_add_one, h]; simp
theorem sumL_le (ps : List (List Wd)) (h : ∀ p ∈ ps, p.length ≤ 500) : (ps.map List.length).sum ≤ 500 * ps.length := by
  induction ps with
  | nil => simp
  | cons a r ih =>
    have h1 := h a (by simp)
    have h2 := ih fun p hp => h p (List.mem_cons_of_mem _ hp)
    simp only [List.map_cons, List.sum_cons, List.length_cons]; omega
theorem setP_le (p : List Wd) (f m : Int) (hm : 500 ≤ m) (hv : WsV p) : (setP p f m).length ≤ p.length := by
  rw [setP_lens]
  have h1 := lens_ok (m := m) hm hv.wdr.wds
  have h2 := len_le_sum _ h1.1
  rw [h1.2] at h2
  unfold wdsL at h2
  rw [List.length_map] at h2
  exact h2
theorem setsP_flat_le (m : Int) (hm : 500 ≤ m) : ∀ (ps : List (List Wd)) (f : Int), (∀ p ∈ ps, WsV p) → (setsP m ps f).flatten.length ≤ (ps.map List.length).sum := by
  intro ps
  induction ps with
  | nil => intro f _; simp [setsP]
  | cons a r ih =>
    intro f h
    have h1 := setP_le a f m hm (h a (by simp))
    have h2 := ih (f + a.length) fun p hp => h p (List.mem_cons_of_mem _ hp)
    simp only [setsP, List.flatten_cons, List.length_append, List.map_cons, List.sum_cons]; omega
theorem setsP_len (m : Int) : ∀ (ps : List (List Wd)) (f : Int), (setsP m ps f).length = ps.length := by
  intro ps
  induction ps with
  | nil => intro f; rfl
  | cons a r ih => intro f; simp [setsP, ih]
/-- The body is set as far as i. -/
def LiB (w1 : World) (m : Int) (ps : List (List Wd)) (s8 s10 s29 : Value) (w' : World) : Prop := ∃ i F : Nat, i ≤ ps.length ∧ s29 = .int .i64 i ∧ s10 = .int .i64 F ∧ F = ((ps.take i).map List.length).sum ∧ Ext w1 w' ∧ kLn.own 86 w' w1.heap.size (fun j => w1.heap.size ≤ j) s8 (setsP m (ps.take i) 0).flatten
/-- The notes are set as far as i. -/
def LiN (w2 : World) (m : Int) (ps : List (List Wd)) (f0 : Nat) (s9 s10 s47 : Value) (w' : World) : Prop := ∃ i F : Nat, i ≤ ps.length ∧ s47 = .int .i64 i ∧ s10 = .int .i64 F ∧ F = f0 + ((ps.take i).map List.length).sum ∧ Ext w2 w' ∧ kLs.own 82 w' w2.heap.size (fun j => w2.heap.size ≤ j) s9 (setsP m (ps.take i) f0)
theorem info82 : (Tryz.prog.info? 82).map (fun i => (i.zero, i.size, i.bytes)) = some (some (Value.slice none 0 0), 1, 24) := by kernel_rfl
theorem kLs_sz : kLs.sz = 1 := rfl
set_option maxHeartbeats 8000000 in
set_option maxRecDepth 100000 in
theorem lines_any (P : Nat → Prop) (w : World) (t : Tx) (m : Int) (A A' : Option Addr) (n n' c c' : Nat) (h1 : kWs.row w P A n t.paras) (h2 : kWs.row w P A' n' t.notes) (hc : chkT t = 0) (hm0 : 500 ≤ m) (hm : m ≤ 2000) (hL : EnvW w) :
    Calls Tryz.prog 148 #[.agg #[.slice A n c, .slice A' n' c'], .int .i64 m] w (fun e w' => ∃ A1 c1 A2 c2, e = .returned (.tuple #[.slice A1 (linesT t m).2.1.length c1, .slice A2 (linesT t m).2.2.length c2, .int .i64 0]) ∧
      kLn.own 86 w' w.heap.size (fun j => w.heap.size ≤ j) (.slice A1 (linesT t m).2.1.length c1) (linesT t m).2.1 ∧ kLs.own 82 w' w.heap.size (fun j => w.heap.size ≤ j) (.slice A2 (linesT t m).2.2.length c2) (linesT t m).2.2 ∧ Ext w w') := by
  have HE1 := Lib.hid (Lay.row_len h1)
  have HE2 := Lib.hid (Lay.row_len h2)
  have HR1 := Lib.hid h1
  have HR2 := Lib.hid h2
  have HV := Lib.hid (wsv_of hc)
  have HCK := Lib.hid (fun X (hX : Ext w X) => check_any P X t A A' n n' c c' (Lay.row_ext h1 hX) (Lay.row_ext h2 hX) hc (hL.ext hX))
  have HENV := Lib.hid hL
  have HT := Lib.hid (show linesT t m = (0, (setsP m t.paras 0).flatten, setsP m t.notes (t.paras.map List.length).sum) by
    unfold linesT
    rw [if_neg (by omega), if_neg (by omega)])
  have hnp := (chkT_val hc).np
  have hnn := (chkT_val hc).nn
  have m1 : ¬ m < 500 := by omega
  have m2 : ¬ (2000 : Int) < m := by omega
  clear h1 h2 hc hL
  go_enter Tryz.func148, Tryz.ntmps148
  go_wp2_with (first | (go_at_call 184; refine (HCK.out _ ((Ext.refl w).alloc _)).mono ?_; rintro e w1 ⟨rfl, hx⟩; have hc0 := (hx.cells.1 w.heap.size 0 (by simp)).trans (by go_simp : _ = some (.slice A n c)); have hc1 := (hx.cells.1 w.heap.size 1 (by simp)).trans (by go_simp : _ = some (.slice A' n' c')); have HX := Lib.hid (((Ext.refl w).alloc _).trans hx); clear hx))
  go_loopw [8, 10, 29] (fun s8 s10 s29 w' => LiB w1 m t.paras s8 s10 s29 w') (fun _ _ s29 _ => toM n s29)
  case atStart => exact ⟨0, 0, by omega, rfl, rfl, rfl, Ext.refl _, Lay.own_nil _ _ _ _ _⟩
  case round =>
    obtain ⟨i, F, hi, rfl, rfl, hF, hx, ho⟩ := hrel
    have HXr := Lib.hid hx
    have HO := Lib.hid ho
    have HF := Lib.hid hF
    have hc0r := (hx.cells.1 w.heap.size 0 (World.block_lt_of_cell? w1 _ hc0)).trans hc0
    have hc1r := (hx.cells.1 w.heap.size 1 (World.block_lt_of_cell? w1 _ hc0)).trans hc1
    clear hx ho hF hc0 hc1
    by_cases hlt : i < n
    case neg =>
      obtain rfl : n = i := by have := HE1.out; omega
      have hni : ¬ ((n : Int) < (n : Int)) := by omega
      obtain ⟨A1, c1, rfl, hl1, _⟩ := Lay.own_row HO.out
      have HTK := Lib.hid (show t.paras.take n = t.paras by rw [HE1.out]; exact List.take_length)
      rw [HTK.out] at HO HF hl1
      have hww := Nat.le_trans HX.out.lt HXr.out.lt
      have HB := Lib.hid (show kLn.own 86 wr w.heap.size (fun j => w.heap.size ≤ j ∧ j < wr.heap.size) (.slice A1 (setsP m t.paras 0).flatten.length c1) (setsP m t.paras 0).flatten from own_base (Lay.own_mono HO.out fun j hj hl => ⟨Nat.le_trans HX.out.lt hj, hl⟩) HX.out.lt)
      go_wp2_with fail
      obtain ⟨wb, hwb⟩ : ∃ wb, wb = wr := ⟨_, rfl⟩
      rw [← hwb] at HXr HB hww ⊢
      clear hwb HO
      go_loopw [9, 10, 47] (fun s9 s10 s47 w' => LiN wb m t.notes F s9 s10 s47 w') (fun _ _ s47 _ => toM n' s47)
      case atStart => exact ⟨0, F, by omega, rfl, rfl, by simp, Ext.refl _, Lay.own_nil _ _ _ _ _⟩
      case round =>
        obtain ⟨i, F', hi, rfl, rfl, hF', hx, ho⟩ := hrel
        have HXn := Lib.hid hx
        have HOn := Lib.hid ho
        have HF' := Lib.hid hF'
        clear hx ho hF'
        by_cases hlt2 : i < n'
        case neg =>
          obtain rfl : n' = i := by have := HE2.out; omega
          have hni : ¬ ((n' : Int) < (n' : Int)) := by omega
          obtain ⟨A2, c2, rfl, _⟩ := Lay.own_row HOn.out
          have HTN := Lib.hid (show t.notes.take n' = t.notes by rw [HE2.out]; exact List.take_length)
          rw [HTN.out] at HOn
          go_wp2_with fail
          refine bodyPost_ret (v := .tuple #[.slice A1 (setsP m (t.paras.take n) 0).flatten.length c1, .slice A2 (setsP m (t.notes.take n') F).length c2, .int .i64 0]) (by simp [results, Tryz.results148, go_sem, *]) rfl ?_
          rw [HTN.out, HTK.out, HF.out]
          have hT := HT.out
          rw [HF.out] at HOn
          have e1 : (linesT t m).2.1 = (setsP m t.paras 0).flatten := by rw [hT]
          have e2 : (linesT t m).2.2 = setsP m t.notes (t.paras.map List.length).sum := by rw [hT]
          rw [e1, e2]
          exact ⟨A1, c1, A2, c2, rfl, Lay.own_mono (Lay.own_keep HB.out HXn.out.lt fun j hj hl => HXn.out.block j hl) (fun j hj _ => hj.1), own_base (Lay.own_mono HOn.out fun j hj _ => by omega) hww, HX.out.trans (HXr.out.trans HXn.out)⟩
        have hI2 : (i : Int) < (n' : Int) := by omega
        obtain ⟨p, hp⟩ : ∃ p, t.notes[i]? = some p := ⟨_, List.getElem?_eq_getElem (by have := HE2.out; omega)⟩
        obtain ⟨b0, off, cs, rfl, hb0, _, hrep, hcell⟩ := Lay.row_at (Lay.row_ext HR2.out (HX.out.trans (HXr.out.trans HXn.out))) hp
        obtain ⟨Ap, cp, rfl, hcp, hrp⟩ := kWs_rep.1 hrep
        have hce := hcell 0 _ rfl
        rw [kWs_sz, Nat.mul_one, Nat.add_zero] at hce
        have hpv := HV.out p (List.mem_append_right _ (List.mem_of_getElem? hp))
        have hF5 : F ≤ 50000 := by
          have h9 := sumL_le t.paras fun q hq => (HV.out q (List.mem_append_left _ hq)).2
          rw [← HF.out] at h9
          omega
        have hF6 : F' ≤ 100000 := by
          have h9 := sumL_le (t.notes.take i) fun q hq => (HV.out q (List.mem_append_right _ (List.mem_of_mem_take hq))).2
          have := HF'.out
          rw [List.length_take] at h9
          omega
        have HSET := Lib.hid (set_any P wr Ap p.length cp p (F' : Int) m hrp hcp hpv.1 hpv.2 (by omega) (by omega) hm0 hm (HENV.out.ext (HX.out.trans (HXr.out.trans HXn.out))))
        have hpl := hpv.2
        have hpv1 := hpv.1
        have HP := Lib.hid hp
        clear hrep hrp hcell hpv hp
        go_wp2_with fail
        refine HSET.out.mono ?_
        rintro e w2 ⟨As, cz, rfl, hcz, hos, hx2⟩
        have hlto := Lay.own_lt HOn.out
        obtain ⟨Ax, cx, e9, _, hrow⟩ := own_rowN (Q := fun j => wr.heap.size ≤ j) hos (fun j hj _ => hj) (fun j hj _ => hj)
        have e9a : As = Ax := by injection e9
        rw [← e9a] at hrow
        clear e9 e9a
        have hll : (setsP m (t.notes.take i) F).length ≤ 100 := by rw [setsP_len, List.length_take]; omega
        obtain ⟨A9, c9, w9, hrun, ho9, hb9, hk9, hs9, hn9⟩ := own_app1 (k := kLs) (Pr := Tryz.prog) (t := 162) Tryz.underlying162 info82 rfl (by decide) (by omega) (Lay.own_ext HOn.out hx2) (Nat.le_trans HXn.out.lt hx2.lt) (cs := #[.slice As (setP p (F' : Int) m).length cz]) (T := 82) (x := setP p (F' : Int) m) ⟨As, _, cz, rfl, hcz, Lay.row_mono hrow fun j hj _ => ⟨Nat.le_trans HXn.out.lt hj, fun e => by have := (hlto j e).2; omega⟩⟩ 1 (by omega)
        have HRUN := Lib.hid hrun
        have HREL := Lib.hid (fun (z : Int) (hz : z = (F' : Int) + p.length) => show LiN wb m t.notes F (.slice A9 ((setsP m (t.notes.take i) F).length + 1) c9) (.int .i64 z) (.int .i64 ((i : Int) + 1)) w9 from ⟨i + 1, F' + p.length, by have := HE2.out; omega, by simp, by rw [hz]; simp, by rw [sumL_take _ HP.out, HF'.out]; omega, Below.trans (HXn.out.trans hx2) (hb9 _ (Nat.le_refl _)), by
          rw [setsP_take m t.notes F i p HP.out, ← Int.natCast_add, ← HF'.out]
          exact ho9⟩)
        clear hrun ho9 hb9 hk9 hs9 hn9 hrow hos hx2 hlto hll hpv1
        go_wp2_with (first | (at_builtin; refine wpList_append_run (s := .tmp 51) (x := .tmp 56) HRUN.out rfl rfl rfl rfl rfl ?_))
        go_roundw
        case rel => exact HREL.out _ rfl
        case measure => simp only [toM]; omega
    have hI : (i : Int) < (n : Int) := by omega
    obtain ⟨p, hp⟩ : ∃ p, t.paras[i]? = some p := ⟨_, List.getElem?_eq_getElem (by have := HE1.out; omega)⟩
    obtain ⟨b0, off, cs, rfl, hb0, _, hrep, hcell⟩ := Lay.row_at (Lay.row_ext HR1.out (HX.out.trans HXr.out)) hp
    obtain ⟨Ap, cp, rfl, hcp, hrp⟩ := kWs_rep.1 hrep
    have hce := hcell 0 _ rfl
    rw [kWs_sz, Nat.mul_one, Nat.add_zero] at hce
    have hpv := HV.out p (List.mem_append_left _ (List.mem_of_getElem? hp))
    have hF5 : F ≤ 50000 := by
      have h9 := sumL_le (t.paras.take i) fun q hq => (HV.out q (List.mem_append_left _ (List.mem_of_mem_take hq))).2
      rw [← HF.out, List.length_take] at h9
      omega
    have HSET := Lib.hid (set_any P wr Ap p.length cp p (F : Int) m hrp hcp hpv.1 hpv.2 (by omega) (by omega) hm0 hm (HENV.out.ext (HX.out.trans HXr.out)))
    have hpl := hpv.2
    have hpv1 := hpv.1
    have HP := Lib.hid hp
    clear hrep hrp hcell hpv hp
    go_wp2_with fail
    refine HSET.out.mono ?_
    rintro e w2 ⟨As, cz, rfl, _, hos, hx2⟩
    have hlto := Lay.own_lt HO.out
    obtain ⟨Ax, cx, e9, _, hrow⟩ := own_rowN (Q := fun j => w1.heap.size ≤ j ∧ u8.ownBlock ≠ some j) hos (fun j hj _ => ⟨Nat.le_trans HXr.out.lt hj, fun e => by have := (hlto j e).2; omega⟩) (fun j hj _ => ⟨Nat.le_trans HXr.out.lt hj, fun e => by have := (hlto j e).2; omega⟩)
    have e9a : As = Ax := by injection e9
    rw [← e9a] at hrow
    clear e9 e9a
    have hll := setP_le p (F : Int) m hm0 hpv1
    have hfl := setsP_flat_le m hm0 (t.paras.take i) 0 fun q hq => (HV.out q (List.mem_append_left _ (List.mem_of_mem_take hq))).1
    rw [← HF.out] at hfl
    obtain ⟨A9, c9, w9, hrun, ho9, hb9, hk9, hs9, hn9⟩ := own_appR (k := kLn) (Pr := Tryz.prog) (t := 82) Tryz.underlying82 info86 rfl (by decide) (by omega) (Lay.own_ext HO.out hx2) hrow cz (by omega) (Nat.le_trans HXr.out.lt hx2.lt)
    have HRUN := Lib.hid hrun
    have HREL := Lib.hid (show LiB w1 m t.paras (.slice A9 ((setsP m (t.paras.take i) 0).flatten.length + (setP p (F : Int) m).length) c9) (.int .i64 ((F : Int) + p.length)) (.int .i64 ((i : Int) + 1)) w9 from ⟨i + 1, F + p.length, by have := HE1.out; omega, by simp, by simp, by rw [sumL_take _ HP.out, ← HF.out], Below.trans (HXr.out.trans hx2) (hb9 _ (Nat.le_refl _)), by
      rw [setsP_take m t.paras 0 i p HP.out, List.flatten_append, ← HF.out, Int.zero_add]
      simpa using ho9⟩)
    clear hrun ho9 hb9 hk9 hs9 hn9 hrow hos hx2 hlto hll hfl hpv1
    go_wp2_with (first | (at_builtin; refine wpList_append_run (s := .tmp 33) (x := .tmp 37) HRUN.out rfl rfl rfl rfl rfl ?_))
    go_roundw
    case rel =>
      have h9 := HREL.out
      rwa [List.length_flatten] at h9
    case measure => simp only [toM]; omega
end
end Go.Proofs.YtdbnddmncbjobaaGreatDoor