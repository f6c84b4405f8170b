/- para.Lines: walked. -/
import Derived.Test.YtdbnddmncbjobaaGreatDoorMc
import Derived.Deep.RegionHeld3
import Derived.ArgAppend
import Derived.Shelf.Slices.Clone
import Derived.Test.YtdbnddmncbjobaaGreatDoorMa
import Derived.OrdersHeld
import Derived.RegionTactic
namespace Go.Proofs.YtdbnddmncbjobaaGreatDoor
open Go Go.RowKit

variable {β : Type}
theorem chkWs_nt (b : Bool) (nn : Int) : ∀ (p : List Wd) (k k' : Int), 0 ≤ k → chkWs b nn p k = .inr k' → k ≤ k' ∧ ∀ w ∈ p, 0 ≤ w.nt ∧ (w.nt = 0 ∨ w.nt ≤ nn) := by
  intro p
  induction p with
  | nil => intro k k' _ h; simp only [chkWs] at h; injection h with h; exact ⟨by omega, fun w hw => by simp at hw⟩
  | cons a r ih =>
    intro k k' hk h
    obtain ⟨_, _, _, h4⟩ := chkWs_inv h
    rcases h4 with ⟨e, h5⟩ | ⟨e, _, e2, e3, h5⟩
    · obtain ⟨h6, h7⟩ := ih _ _ hk h5
      refine ⟨h6, fun w hw => ?_⟩
      rcases List.mem_cons.1 hw with rfl | hw
      · omega
      · exact h7 w hw
    · obtain ⟨h6, h7⟩ := ih _ _ (by omega) h5
      refine ⟨by omega, fun w hw => ?_⟩
      rcases List.mem_cons.1 hw with rfl | hw
      · omega
      · exact h7 w hw
theorem chkPs_nt (nn : Int) : ∀ (ps : List (List Wd)) (b : Nat) (k k' : Int), 0 ≤ k → chkPs nn b ps k = .inr k' → ∀ p ∈ ps, ∀ w ∈ p, 0 ≤ w.nt ∧ (w.nt = 0 ∨ w.nt ≤ nn) := by
  intro ps
  induction ps with
  | nil => intro b k k' _ _ p hp; simp at hp
  | cons a r ih =>
    intro b k k' hk h p hp
    simp only [chkPs] at h
    split at h
    · cases h
    · next k1 hk1 =>
      obtain ⟨h6, h7⟩ := chkWs_nt _ _ _ _ _ hk hk1
      rcases List.mem_cons.1 hp with rfl | hp
      · exact h7
      · exact ih _ _ _ (by omega) h p hp
theorem wsv_of {t : Tx} (h : chkT t = 0) : ∀ p ∈ t.paras ++ t.notes, WsV p ∧ p.length ≤ 500 := fun p hp => by
  have hv := chkT_val h
  have hn := chkPs_nt _ _ _ _ _ (Int.le_refl 0) (chkPs_inv h) p hp
  refine ⟨fun w hw => ?_, (hv.len p hp).2⟩
  have h1 := hv.ok p hp w hw
  have h2 := hn w hw
  have h3 := hv.nn
  unfold validW at h1
  have := of_decide_eq_true h1
  omega
/-- append of a row that lies in blocks apart. -/
theorem own_appR {k : Lay β} {Pr : Program} {t e : TypeId} {z : Value} {bytes : Nat} (ht : Pr.underlying t = some (.slice e)) (hinfo : (Pr.info? e).map (fun i => (i.zero, i.size, i.bytes)) = some (some z, k.sz, bytes)) (hzs : z.cells.size = k.sz) (hsz : 0 < k.sz) (hby : bytes ≤ 1000)
    {X : World} {base : Nat} {P : Nat → Prop} {v : Value} {xs ys : List β} (h : k.own e X base P v xs) {A : Option Addr} {m : Nat} (hr : k.row X (fun j => P j ∧ v.ownBlock ≠ some j) A m ys) (c : Nat) (hm : xs.length + m ≤ 100000000) (hbase : base ≤ X.heap.size) :
    ∃ A' c' w', (Builtin.append_ #[t, t] t #[v, .slice A m c]).run Pr X = .ok (.slice A' (xs.length + m) c') w' ∧ k.own e w' base P (.slice A' (xs.length + m) c') (xs ++ ys) ∧ (∀ B, B ≤ base → Below B X w') ∧
      (∀ j, j < X.heap.size → v.ownBlock ≠ some j → w'.heap[j]? = X.heap[j]?) ∧ X.heap.size ≤ w'.heap.size ∧ (∀ j, (Value.slice A' (xs.length + m) c').ownBlock = some j → v.ownBlock = some j ∨ X.heap.size ≤ j) := by
  obtain ⟨ds, h1, h2, h3, h4, h5⟩ := hr
  exact Lay.own_append (e := e) ht hinfo hzs hsz hby h (ds' := ds) (ys := ys) h3 h2 h5 c hm hbase
theorem setsP_take (m : Int) : ∀ (ps : List (List Wd)) (f : Int) (i : Nat) (p : List Wd), ps[i]? = some p → setsP m (ps.take (i + 1)) f = setsP m (ps.take i) f ++ [setP p (f + (((ps.take i).map List.length).sum : Nat)) m] := by
  intro ps
  induction ps with
  | nil => intro f i p h; simp at h
  | cons a r ih =>
    intro f i p h
    cases i with
    | zero => injection h with h; subst h; simp [setsP]
    | succ i =>
      have := ih (f + a.length) i p h
      simp only [List.take_succ_cons, setsP, List.cons_append, List.map_cons, List.sum_cons]
      rw [this, Int.add_assoc, ← Int.natCast_add]
theorem sumL_take (ps : List (List Wd)) {i : Nat} {p : List Wd} (h : ps[i]? = some p) : ((ps.take (i + 1)).map List.length).sum = ((ps.take i).map List.length).sum + p.length := by
  rw [List.take_add_one, h]; simp
theorem sumL_le (ps : List (List Wd)) (h : ∀ p ∈ ps, p.length ≤ 500) : (ps.map List.length).sum ≤ 500 * ps.length := by
  induction ps with
  | nil => simp
  | cons a r ih =>
    have h1 := h a (by simp)
    have h2 := ih fun p hp => h p (List.mem_cons_of_mem _ hp)
    simp only [List.map_cons, List.sum_cons, List.length_cons]; omega
theorem setP_le (p : List Wd) (f m : Int) (hm : 500 ≤ m) (hv : WsV p) : (setP p f m).length ≤ p.length := by
  rw [setP_lens]
  have h1 := lens_ok (m := m) hm hv.wdr.wds
  have h2 := len_le_sum _ h1.1
  rw [h1.2] at h2
  unfold wdsL at h2
  rw [List.length_map] at h2
  exact h2
theorem setsP_flat_le (m : Int) (hm : 500 ≤ m) : ∀ (ps : List (List Wd)) (f : Int), (∀ p ∈ ps, WsV p) → (setsP m ps f).flatten.length ≤ (ps.map List.length).sum := by
  intro ps
  induction ps with
  | nil => intro f _; simp [setsP]
  | cons a r ih =>
    intro f h
    have h1 := setP_le a f m hm (h a (by simp))
    have h2 := ih (f + a.length) fun p hp => h p (List.mem_cons_of_mem _ hp)
    simp only [setsP, List.flatten_cons, List.length_append, List.map_cons, List.sum_cons]; omega
theorem setsP_len (m : Int) : ∀ (ps : List (List Wd)) (f : Int), (setsP m ps f).length = ps.length := by
  intro ps
  induction ps with
  | nil => intro f; rfl
  | cons a r ih => intro f; simp [setsP, ih]
/-- The body is set as far as i. -/
def LiB (w1 : World) (m : Int) (ps : List (List Wd)) (s8 s10 s29 : Value) (w' : World) : Prop := ∃ i F : Nat, i ≤ ps.length ∧ s29 = .int .i64 i ∧ s10 = .int .i64 F ∧ F = ((ps.take i).map List.length).sum ∧ Ext w1 w' ∧ kLn.own 86 w' w1.heap.size (fun j => w1.heap.size ≤ j) s8 (setsP m (ps.take i) 0).flatten
/-- The notes are set as far as i. -/
def LiN (w2 : World) (m : Int) (ps : List (List Wd)) (f0 : Nat) (s9 s10 s47 : Value) (w' : World) : Prop := ∃ i F : Nat, i ≤ ps.length ∧ s47 = .int .i64 i ∧ s10 = .int .i64 F ∧ F = f0 + ((ps.take i).map List.length).sum ∧ Ext w2 w' ∧ kLs.own 82 w' w2.heap.size (fun j => w2.heap.size ≤ j) s9 (setsP m (ps.take i) f0)
theorem info82 : (Tryz.prog.info? 82).map (fun i => (i.zero, i.size, i.bytes)) = some (some (Value.slice none 0 0), 1, 24) := by kernel_rfl
theorem kLs_sz : kLs.sz = 1 := rfl
set_option maxHeartbeats 8000000 in
set_option maxRecDepth 100000 in
theorem lines_any (P : Nat → Prop) (w : World) (t : Tx) (m : Int) (A A' : Option Addr) (n n' c c' : Nat) (h1 : kWs.row w P A n t.paras) (h2 : kWs.row w P A' n' t.notes) (hc : chkT t = 0) (hm0 : 500 ≤ m) (hm : m ≤ 2000) (hL : EnvW w) :
    Calls Tryz.prog 148 #[.agg #[.slice A n c, .slice A' n' c'], .int .i64 m] w (fun e w' => ∃ A1 c1 A2 c2, e = .returned (.tuple #[.slice A1 (linesT t m).2.1.length c1, .slice A2 (linesT t m).2.2.length c2, .int .i64 0]) ∧
      kLn.own 86 w' w.heap.size (fun j => w.heap.size ≤ j) (.slice A1 (linesT t m).2.1.length c1) (linesT t m).2.1 ∧ kLs.own 82 w' w.heap.size (fun j => w.heap.size ≤ j) (.slice A2 (linesT t m).2.2.length c2) (linesT t m).2.2 ∧ Ext w w') := by
  have HE1 := Lib.hid (Lay.row_len h1)
  have HE2 := Lib.hid (Lay.row_len h2)
  have HR1 := Lib.hid h1
  have HR2 := Lib.hid h2
  have HV := Lib.hid (wsv_of hc)
  have HCK := Lib.hid (fun X (hX : Ext w X) => check_any P X t A A' n n' c c' (Lay.row_ext h1 hX) (Lay.row_ext h2 hX) hc (hL.ext hX))
  have HENV := Lib.hid hL
  have HT := Lib.hid (show linesT t m = (0, (setsP m t.paras 0).flatten, setsP m t.notes (t.paras.map List.length).sum) by
    unfold linesT
    rw [if_neg (by omega), if_neg (by omega)])
  have hnp := (chkT_val hc).np
  have hnn := (chkT_val hc).nn
  have m1 : ¬ m < 500 := by omega
  have m2 : ¬ (2000 : Int) < m := by omega
  clear h1 h2 hc hL
  go_enter Tryz.func148, Tryz.ntmps148
  go_wp2_with (first | (go_at_call 184; refine (HCK.out _ ((Ext.refl w).alloc _)).mono ?_; rintro e w1 ⟨rfl, hx⟩; have hc0 := (hx.cells.1 w.heap.size 0 (by simp)).trans (by go_simp : _ = some (.slice A n c)); have hc1 := (hx.cells.1 w.heap.size 1 (by simp)).trans (by go_simp : _ = some (.slice A' n' c')); have HX := Lib.hid (((Ext.refl w).alloc _).trans hx); clear hx))
  go_loopw [8, 10, 29] (fun s8 s10 s29 w' => LiB w1 m t.paras s8 s10 s29 w') (fun _ _ s29 _ => toM n s29)
  case atStart => exact ⟨0, 0, by omega, rfl, rfl, rfl, Ext.refl _, Lay.own_nil _ _ _ _ _⟩
  case round =>
    obtain ⟨i, F, hi, rfl, rfl, hF, hx, ho⟩ := hrel
    have HXr := Lib.hid hx
    have HO := Lib.hid ho
    have HF := Lib.hid hF
    have hc0r := (hx.cells.1 w.heap.size 0 (World.block_lt_of_cell? w1 _ hc0)).trans hc0
    have hc1r := (hx.cells.1 w.heap.size 1 (World.block_lt_of_cell? w1 _ hc0)).trans hc1
    clear hx ho hF hc0 hc1
    by_cases hlt : i < n
    case neg =>
      obtain rfl : n = i := by have := HE1.out; omega
      have hni : ¬ ((n : Int) < (n : Int)) := by omega
      obtain ⟨A1, c1, rfl, hl1, _⟩ := Lay.own_row HO.out
      have HTK := Lib.hid (show t.paras.take n = t.paras by rw [HE1.out]; exact List.take_length)
      rw [HTK.out] at HO HF hl1
      have hww := Nat.le_trans HX.out.lt HXr.out.lt
      have HB := Lib.hid (show kLn.own 86 wr w.heap.size (fun j => w.heap.size ≤ j ∧ j < wr.heap.size) (.slice A1 (setsP m t.paras 0).flatten.length c1) (setsP m t.paras 0).flatten from own_base (Lay.own_mono HO.out fun j hj hl => ⟨Nat.le_trans HX.out.lt hj, hl⟩) HX.out.lt)
      go_wp2_with fail
      obtain ⟨wb, hwb⟩ : ∃ wb, wb = wr := ⟨_, rfl⟩
      rw [← hwb] at HXr HB hww ⊢
      clear hwb HO
      go_loopw [9, 10, 47] (fun s9 s10 s47 w' => LiN wb m t.notes F s9 s10 s47 w') (fun _ _ s47 _ => toM n' s47)
      case atStart => exact ⟨0, F, by omega, rfl, rfl, by simp, Ext.refl _, Lay.own_nil _ _ _ _ _⟩
      case round =>
        obtain ⟨i, F', hi, rfl, rfl, hF', hx, ho⟩ := hrel
        have HXn := Lib.hid hx
        have HOn := Lib.hid ho
        have HF' := Lib.hid hF'
        clear hx ho hF'
        by_cases hlt2 : i < n'
        case neg =>
          obtain rfl : n' = i := by have := HE2.out; omega
          have hni : ¬ ((n' : Int) < (n' : Int)) := by omega
          obtain ⟨A2, c2, rfl, _⟩ := Lay.own_row HOn.out
          have HTN := Lib.hid (show t.notes.take n' = t.notes by rw [HE2.out]; exact List.take_length)
          rw [HTN.out] at HOn
          go_wp2_with fail
          refine bodyPost_ret (v := .tuple #[.slice A1 (setsP m (t.paras.take n) 0).flatten.length c1, .slice A2 (setsP m (t.notes.take n') F).length c2, .int .i64 0]) (by simp [results, Tryz.results148, go_sem, *]) rfl ?_
          rw [HTN.out, HTK.out, HF.out]
          have hT := HT.out
          rw [HF.out] at HOn
          have e1 : (linesT t m).2.1 = (setsP m t.paras 0).flatten := by rw [hT]
          have e2 : (linesT t m).2.2 = setsP m t.notes (t.paras.map List.length).sum := by rw [hT]
          rw [e1, e2]
          exact ⟨A1, c1, A2, c2, rfl, Lay.own_mono (Lay.own_keep HB.out HXn.out.lt fun j hj hl => HXn.out.block j hl) (fun j hj _ => hj.1), own_base (Lay.own_mono HOn.out fun j hj _ => by omega) hww, HX.out.trans (HXr.out.trans HXn.out)⟩
        have hI2 : (i : Int) < (n' : Int) := by omega
        obtain ⟨p, hp⟩ : ∃ p, t.notes[i]? = some p := ⟨_, List.getElem?_eq_getElem (by have := HE2.out; omega)⟩
        obtain ⟨b0, off, cs, rfl, hb0, _, hrep, hcell⟩ := Lay.row_at (Lay.row_ext HR2.out (HX.out.trans (HXr.out.trans HXn.out))) hp
        obtain ⟨Ap, cp, rfl, hcp, hrp⟩ := kWs_rep.1 hrep
        have hce := hcell 0 _ rfl
        rw [kWs_sz, Nat.mul_one, Nat.add_zero] at hce
        have hpv := HV.out p (List.mem_append_right _ (List.mem_of_getElem? hp))
        have hF5 : F ≤ 50000 := by
          have h9 := sumL_le t.paras fun q hq => (HV.out q (List.mem_append_left _ hq)).2
          rw [← HF.out] at h9
          omega
        have hF6 : F' ≤ 100000 := by
          have h9 := sumL_le (t.notes.take i) fun q hq => (HV.out q (List.mem_append_right _ (List.mem_of_mem_take hq))).2
          have := HF'.out
          rw [List.length_take] at h9
          omega
        have HSET := Lib.hid (set_any P wr Ap p.length cp p (F' : Int) m hrp hcp hpv.1 hpv.2 (by omega) (by omega) hm0 hm (HENV.out.ext (HX.out.trans (HXr.out.trans HXn.out))))
        have hpl := hpv.2
        have hpv1 := hpv.1
        have HP := Lib.hid hp
        clear hrep hrp hcell hpv hp
        go_wp2_with fail
        refine HSET.out.mono ?_
        rintro e w2 ⟨As, cz, rfl, hcz, hos, hx2⟩
        have hlto := Lay.own_lt HOn.out
        obtain ⟨Ax, cx, e9, _, hrow⟩ := own_rowN (Q := fun j => wr.heap.size ≤ j) hos (fun j hj _ => hj) (fun j hj _ => hj)
        have e9a : As = Ax := by injection e9
        rw [← e9a] at hrow
        clear e9 e9a
        have hll : (setsP m (t.notes.take i) F).length ≤ 100 := by rw [setsP_len, List.length_take]; omega
        obtain ⟨A9, c9, w9, hrun, ho9, hb9, hk9, hs9, hn9⟩ := own_app1 (k := kLs) (Pr := Tryz.prog) (t := 162) Tryz.underlying162 info82 rfl (by decide) (by omega) (Lay.own_ext HOn.out hx2) (Nat.le_trans HXn.out.lt hx2.lt) (cs := #[.slice As (setP p (F' : Int) m).length cz]) (T := 82) (x := setP p (F' : Int) m) ⟨As, _, cz, rfl, hcz, Lay.row_mono hrow fun j hj _ => ⟨Nat.le_trans HXn.out.lt hj, fun e => by have := (hlto j e).2; omega⟩⟩ 1 (by omega)
        have HRUN := Lib.hid hrun
        have HREL := Lib.hid (fun (z : Int) (hz : z = (F' : Int) + p.length) => show LiN wb m t.notes F (.slice A9 ((setsP m (t.notes.take i) F).length + 1) c9) (.int .i64 z) (.int .i64 ((i : Int) + 1)) w9 from ⟨i + 1, F' + p.length, by have := HE2.out; omega, by simp, by rw [hz]; simp, by rw [sumL_take _ HP.out, HF'.out]; omega, Below.trans (HXn.out.trans hx2) (hb9 _ (Nat.le_refl _)), by
          rw [setsP_take m t.notes F i p HP.out, ← Int.natCast_add, ← HF'.out]
          exact ho9⟩)
        clear hrun ho9 hb9 hk9 hs9 hn9 hrow hos hx2 hlto hll hpv1
        go_wp2_with (first | (at_builtin; refine wpList_append_run (s := .tmp 51) (x := .tmp 56) HRUN.out rfl rfl rfl rfl rfl ?_))
        go_roundw
        case rel => exact HREL.out _ rfl
        case measure => simp only [toM]; omega
    have hI : (i : Int) < (n : Int) := by omega
    obtain ⟨p, hp⟩ : ∃ p, t.paras[i]? = some p := ⟨_, List.getElem?_eq_getElem (by have := HE1.out; omega)⟩
    obtain ⟨b0, off, cs, rfl, hb0, _, hrep, hcell⟩ := Lay.row_at (Lay.row_ext HR1.out (HX.out.trans HXr.out)) hp
    obtain ⟨Ap, cp, rfl, hcp, hrp⟩ := kWs_rep.1 hrep
    have hce := hcell 0 _ rfl
    rw [kWs_sz, Nat.mul_one, Nat.add_zero] at hce
    have hpv := HV.out p (List.mem_append_left _ (List.mem_of_getElem? hp))
    have hF5 : F ≤ 50000 := by
      have h9 := sumL_le (t.paras.take i) fun q hq => (HV.out q (List.mem_append_left _ (List.mem_of_mem_take hq))).2
      rw [← HF.out, List.length_take] at h9
      omega
    have HSET := Lib.hid (set_any P wr Ap p.length cp p (F : Int) m hrp hcp hpv.1 hpv.2 (by omega) (by omega) hm0 hm (HENV.out.ext (HX.out.trans HXr.out)))
    have hpl := hpv.2
    have hpv1 := hpv.1
    have HP := Lib.hid hp
    clear hrep hrp hcell hpv hp
    go_wp2_with fail
    refine HSET.out.mono ?_
    rintro e w2 ⟨As, cz, rfl, _, hos, hx2⟩
    have hlto := Lay.own_lt HO.out
    obtain ⟨Ax, cx, e9, _, hrow⟩ := own_rowN (Q := fun j => w1.heap.size ≤ j ∧ u8.ownBlock ≠ some j) hos (fun j hj _ => ⟨Nat.le_trans HXr.out.lt hj, fun e => by have := (hlto j e).2; omega⟩) (fun j hj _ => ⟨Nat.le_trans HXr.out.lt hj, fun e => by have := (hlto j e).2; omega⟩)
    have e9a : As = Ax := by injection e9
    rw [← e9a] at hrow
    clear e9 e9a
    have hll := setP_le p (F : Int) m hm0 hpv1
    have hfl := setsP_flat_le m hm0 (t.paras.take i) 0 fun q hq => (HV.out q (List.mem_append_left _ (List.mem_of_mem_take hq))).1
    rw [← HF.out] at hfl
    obtain ⟨A9, c9, w9, hrun, ho9, hb9, hk9, hs9, hn9⟩ := own_appR (k := kLn) (Pr := Tryz.prog) (t := 82) Tryz.underlying82 info86 rfl (by decide) (by omega) (Lay.own_ext HO.out hx2) hrow cz (by omega) (Nat.le_trans HXr.out.lt hx2.lt)
    have HRUN := Lib.hid hrun
    have HREL := Lib.hid (show LiB w1 m t.paras (.slice A9 ((setsP m (t.paras.take i) 0).flatten.length + (setP p (F : Int) m).length) c9) (.int .i64 ((F : Int) + p.length)) (.int .i64 ((i : Int) + 1)) w9 from ⟨i + 1, F + p.length, by have := HE1.out; omega, by simp, by simp, by rw [sumL_take _ HP.out, ← HF.out], Below.trans (HXr.out.trans hx2) (hb9 _ (Nat.le_refl _)), by
      rw [setsP_take m t.paras 0 i p HP.out, List.flatten_append, ← HF.out, Int.zero_add]
      simpa using ho9⟩)
    clear hrun ho9 hb9 hk9 hs9 hn9 hrow hos hx2 hlto hll hfl hpv1
    go_wp2_with (first | (at_builtin; refine wpList_append_run (s := .tmp 33) (x := .tmp 37) HRUN.out rfl rfl rfl rfl rfl ?_))
    go_roundw
    case rel =>
      have h9 := HREL.out
      rwa [List.length_flatten] at h9
    case measure => simp only [toM]; omega
end Go.Proofs.YtdbnddmncbjobaaGreatDoor

/- page.check at lines that are right: walked. -/
namespace Go.Proofs.YtdbnddmncbjobaaGreatDoor
open Go Go.RowKit

theorem lnone_any (A : Option Addr) (n c : Nat) (w : World) : Calls Tryz.prog 223 #[.slice A n c] w (fun e w' => e = .returned (.bool (decide (n = 0))) ∧ w' = w) := by
  obtain ⟨q, hq⟩ : ∃ q, q = decide (n = 0) := ⟨_, rfl⟩
  have HQ := Lib.hid hq
  by_cases h : n = 0
  · subst h
    go_enter Tryz.func223, Tryz.ntmps223
    go_wp2_with fail
    go_ret
    exact ⟨rfl, rfl⟩
  · have h' : ¬ (n : Int) = 0 := by omega
    clear hq HQ
    go_enter Tryz.func223, Tryz.ntmps223
    go_wp2_with fail
    go_ret
    exact ⟨by rw [decide_eq_false h]; simp [h], rfl⟩
theorem lines_none (P : Nat → Prop) (W : World) (A : Option Addr) (n c : Nat) (xs : List (List Ln)) (h : kLs.row W P A n xs) (hn : n ≤ 100000) :
    Calls Tryz.prog 222 #[.slice A n c, .func (.func 223) #[] #[]] W (fun e W' => e = .returned (.bool (xs.any fun p => decide (p.length = 0))) ∧ Ext W W') :=
  con222_223 kLs rfl _ P W A n c xs h hn fun X x u hx hr => by
    obtain ⟨A', n', c', e, _, h2⟩ := hr
    have hl := Lay.row_len h2
    subst hl
    obtain rfl : u = .slice A' x.length c' := by simpa using e
    exact (lnone_any A' x.length c' X).mono fun e w' ⟨h1, h2⟩ => ⟨h1, by rw [h2]; exact Ext.refl _⟩
theorem ordN_inv {nn n : Int} {r : List Int} {k K : Int} (h : ordN nn (n :: r) k = some K) : n = k ∧ n < nn ∧ ordN nn r (k + 1) = some K := by
  simp only [ordN] at h
  split at h
  · cases h
  · next h1 => exact ⟨by omega, by omega, h⟩
theorem ordL_inv {nn : Int} {x : Ln} {r : List Ln} {k K : Int} (h : ordL nn (x :: r) k = some K) : ∃ k1, ordN nn x.nts k = some k1 ∧ ordL nn r k1 = some K := by
  simp only [ordL] at h
  cases hx : ordN nn x.nts k with
  | none => rw [hx] at h; simp at h
  | some k1 => rw [hx] at h; exact ⟨k1, rfl, by simpa using h⟩
theorem chkPg_inv {body : List Ln} {notes : List (List Ln)} {h : Int} (hc : chkPg body notes h = 0) : 4 ≤ h ∧ h ≤ 100 ∧ notes.any (fun l => decide (l.length = 0)) = false ∧ ∃ K, ordL notes.length body 0 = some K ∧ (notes.length : Int) ≤ K := by
  unfold chkPg at hc
  split at hc
  · cases hc
  · next h1 =>
    split at hc
    · cases hc
    · next h2 =>
      refine ⟨by omega, by omega, by rw [Bool.eq_false_iff]; exact h2, ?_⟩
      split at hc
      · cases hc
      · next k hk =>
        split at hc
        · cases hc
        · next h3 => exact ⟨k, hk, by omega⟩
def PkO (w : World) (nn : Nat) (body : List Ln) (K : Int) (s7 s22 : Value) (w' : World) : Prop := ∃ i k : Nat, i ≤ body.length ∧ k ≤ nn ∧ s22 = .int .i64 i ∧ s7 = .int .i64 k ∧ Ext w w' ∧ ordL nn (body.drop i) k = some K
def PkI (w : World) (nn k0 : Nat) (l : List Int) (k1 : Int) (s7 s29 : Value) (w' : World) : Prop := ∃ j k : Nat, j ≤ l.length ∧ k = k0 + j ∧ k ≤ nn ∧ s29 = .int .i64 j ∧ s7 = .int .i64 k ∧ Ext w w' ∧ ordN nn (l.drop j) k = some k1
set_option maxHeartbeats 8000000 in
set_option maxRecDepth 100000 in
theorem pgcheck_any (P : Nat → Prop) (w : World) (A A' : Option Addr) (n n' c c' : Nat) (body : List Ln) (notes : List (List Ln)) (h : Int) (h1 : kLn.row w P A n body) (h2 : kLs.row w P A' n' notes) (hc : chkPg body notes h = 0) (hn : n ≤ 100000) (hn' : n' ≤ 100000) :
    Calls Tryz.prog 186 #[.slice A n c, .slice A' n' c', .int .i64 h] w (fun e w' => e = .returned (.int .i64 0) ∧ Ext w w') := by
  obtain ⟨k1, k2, k3, K, k4, k5⟩ := chkPg_inv hc
  have HE1 := Lib.hid (Lay.row_len h1)
  have HE2 := Lib.hid (Lay.row_len h2)
  have HR1 := Lib.hid h1
  have hnn := lines_none P w A' n' c' notes h2 hn'
  rw [k3] at hnn
  have HNN := Lib.hid hnn
  have HK4 := Lib.hid k4
  rw [← HE2.out] at HK4
  rw [← HE2.out] at k5
  have m1 : ¬ h < 4 := by omega
  have m2 : ¬ (100 : Int) < h := by omega
  clear h1 h2 hc k3 k4 hnn
  go_enter Tryz.func186, Tryz.ntmps186
  go_wp2_with (first | (go_at_call 222; refine HNN.out.mono ?_; rintro e w1 ⟨rfl, hx⟩; have HX := Lib.hid hx; clear hx))
  go_loopw [7, 22] (fun s7 s22 w' => PkO w1 n' body K s7 s22 w') (fun _ s22 _ => toM n s22)
  case atStart => exact ⟨0, 0, by omega, by omega, rfl, rfl, Ext.refl _, HK4.out⟩
  case round =>
    obtain ⟨i, k, hi, hk, rfl, rfl, hx, heq⟩ := hrel
    have HXr := Lib.hid hx
    have HEQ := Lib.hid heq
    clear hx heq
    by_cases hlt : i < n
    case neg =>
      obtain rfl : n = i := by have := HE1.out; omega
      have hni : ¬ ((n : Int) < (n : Int)) := by omega
      have hKk : K = k := by
        have h9 := HEQ.out
        rw [List.drop_of_length_le (by have := HE1.out; omega)] at h9
        injection h9 with h9
        exact h9.symm
      have hkn : ¬ ((k : Int) < (n' : Int)) := by omega
      go_wp2_with fail
      go_ret
      exact ⟨rfl, HX.out.trans HXr.out⟩
    have hI : (i : Int) < (n : Int) := by omega
    obtain ⟨x, hx⟩ : ∃ x, body[i]? = some x := ⟨_, List.getElem?_eq_getElem (by have := HE1.out; omega)⟩
    obtain ⟨k1, hk1, hk2⟩ := ordL_inv (by have h9 := HEQ.out; rw [dwl' _ hx] at h9; exact h9)
    obtain ⟨b0, off, cs, rfl, hb0, _, hrep, hcell⟩ := Lay.row_at (Lay.row_ext HR1.out (HX.out.trans HXr.out)) hx
    obtain ⟨A1, n1, c1, A2, n2, c2, rfl, _, _, hr1, hr2⟩ := kLn_rep.1 hrep
    have c0 := hcell 0 _ rfl
    have c1' := hcell 1 _ rfl
    have c2' := hcell 2 _ rfl
    have c3' := hcell 3 _ rfl
    rw [kLn_sz] at c0 c1' c2' c3'
    rw [Nat.add_zero] at c0
    have HR2 := Lib.hid hr2
    have HE3 := Lib.hid (Lay.row_len hr2)
    have HK1 := Lib.hid hk1
    have HK2 := Lib.hid hk2
    obtain ⟨x1, x2, x3, x4⟩ := x
    simp only at c0 c1' HR2 HE3 HK1
    clear hrep hcell hr1 hr2 hk1 hk2 hx
    go_wp2_with fail
    go_loopw [7, 29] (fun s7 s29 w' => PkI wr n' k x4 k1 s7 s29 w') (fun _ s29 _ => toM n2 s29)
    case atStart => exact ⟨0, k, by omega, rfl, hk, rfl, rfl, (Ext.refl _).alloc _, HK1.out⟩
    case round =>
      obtain ⟨j, k', hj, hkj, hk', rfl, rfl, hxi, heqi⟩ := hrel
      have hjn : j ≤ n' := by omega
      have HKJ := Lib.hid hkj
      clear hkj
      have HXi := Lib.hid hxi
      have HEQi := Lib.hid heqi
      clear hxi heqi
      by_cases hjl : j < n2
      case neg =>
        obtain rfl : n2 = j := by have := HE3.out; omega
        have hnj : ¬ ((n2 : Int) < (n2 : Int)) := by omega
        have HK := Lib.hid (show k1 = (k' : Int) by
          have h9 := HEQi.out
          rw [List.drop_of_length_le (by have := HE3.out; omega)] at h9
          injection h9 with h9
          exact h9.symm)
        go_wp2_with fail
        go_roundw
        case rel => exact ⟨i + 1, k', by have := HE1.out; omega, hk', by simp, rfl, HXr.out.trans HXi.out, by have h9 := HK2.out; rwa [HK.out] at h9⟩
        case measure => simp only [toM]; omega
      have hJ : (j : Int) < (n2 : Int) := by omega
      obtain ⟨y, hy⟩ : ∃ y, x4[j]? = some y := ⟨_, List.getElem?_eq_getElem (by have := HE3.out; omega)⟩
      obtain ⟨e1, e2, e3⟩ := ordN_inv (by have h9 := HEQi.out; rw [dwl' _ hy] at h9; exact h9)
      subst e1
      obtain ⟨b2, o2, rfl, hb2, _, hcell⟩ := int_at (Lay.row_ext HR2.out HXi.out) hy
      have HE := Lib.hid e3
      have e2' : ¬ ((n' : Int) ≤ (k' : Int)) := by omega
      clear hy e3
      go_wp2_with fail
      go_roundw
      case rel => exact ⟨j + 1, k' + 1, by have := HE3.out; omega, by have := HKJ.out; omega, by omega, by simp, by simp, HXi.out, HE.out⟩
      case measure => simp only [toM]; omega
end Go.Proofs.YtdbnddmncbjobaaGreatDoor

/- slices.Clone at numbers in any row; page.clone: walked. -/
namespace Go.Proofs.YtdbnddmncbjobaaGreatDoor
open Go Go.RowKit

theorem ints_own {w : World} {base : Nat} {v : Value} {n : Nat} {xs : List Int} {P : Nat → Prop} (hn : n = xs.length) (h : w.ownsRow base 3 1 v n (xs.map (Value.int .i64))) : kInt.own 3 w base P v xs := by
  subst hn
  refine ⟨xs.map iCs, ?_, List.length_map .., fun i d x hd hx => ?_⟩
  · unfold OL
    rw [gcells_ints, List.length_map]
    exact h
  · obtain ⟨y, hy, rfl⟩ := iCs_at hd
    rw [hy] at hx
    injection hx with hx
    subst hx
    rfl
/-- slices.Clone of numbers. -/
theorem clone_int (P Q : Nat → Prop) (w : World) (A : Option Addr) (n c : Nat) (xs : List Int) (h : kInt.row w P A n xs) (hn : n ≤ 1000000) :
    Calls Tryz.prog 128 #[.slice A n c] w (fun e w' => ∃ A' c', e = .returned (.slice A' n c') ∧ n ≤ c' ∧ kInt.own 3 w' w.heap.size Q (.slice A' n c') xs ∧ Ext w w') := by
  have hl := Lay.row_len h
  have fin : ∀ (v' : Value) (w' : World), kInt.own 3 w' w.heap.size Q v' xs → Ext w w' → ∃ A' c', Ending.returned v' = .returned (.slice A' n c') ∧ n ≤ c' ∧ kInt.own 3 w' w.heap.size Q (.slice A' n c') xs ∧ Ext w w' := fun v' w' h1 h2 => by
    obtain ⟨A', c', e, hc, _⟩ := Lay.own_row h1
    subst e
    rw [hl]
    exact ⟨A', c', rfl, hc, h1, h2⟩
  cases A with
  | none =>
    have h0 : n = 0 := by
      obtain ⟨ds, h1, h2, h3, _⟩ := h
      rcases Nat.eq_zero_or_pos n with h | h
      · exact h
      · obtain ⟨b, off, e, _⟩ := h3.2 h; cases e
    have hx : xs = [] := List.eq_nil_of_length_eq_zero (by omega)
    subst h0 hx
    exact (Tryz.slices_Clone_int_nil 0 c w).mono fun e w' ⟨h1, h2⟩ => ⟨none, 0, h1, Nat.le_refl _, Lay.own_nil _ _ _ _ _, by rw [h2]; exact Ext.refl _⟩
  | some a =>
    rcases Nat.eq_zero_or_pos n with h0 | h0
    · have hx : xs = [] := List.eq_nil_of_length_eq_zero (by omega)
      subst h0 hx
      exact (Tryz.slices_Clone_int_zero a c w).mono fun e w' ⟨v', h1, h2, _, h3⟩ => by
        rw [h1]
        exact fin v' w' (ints_own rfl (by simpa using h2)) h3
    · obtain ⟨x0, hx0⟩ : ∃ x, xs[0]? = some x := ⟨_, List.getElem?_eq_getElem (by omega)⟩
      obtain ⟨b, off, e, _, _, _⟩ := int_at h hx0
      injection e with e
      subst e
      have hcell : ∀ j, j < xs.length → w.cell? ⟨b, off + j, none⟩ = some (.int .i64 (xs.getD j 0)) := fun j hj => by
        obtain ⟨b', off', e', _, _, hc⟩ := int_at h (List.getElem?_eq_getElem hj)
        injection e' with e'
        injection e' with e1 e2
        subst e1 e2
        rw [hc, List.getD_eq_getElem?_getD, List.getElem?_eq_getElem hj]
        rfl
      exact (Tryz.slices_Clone_int b off n c xs w (by omega) (by omega) hcell).mono fun e w' ⟨v', h1, h2, _, h3⟩ => by
        rw [h1]
        rw [List.take_of_length_le (by omega)] at h2
        exact fin v' w' (ints_own hl h2) h3
/-- The first i lines of the copy are its own. -/
def CnR (w : World) (g : Nat) (ls : List Ln) (s16 : Value) (w' : World) : Prop := ∃ (i : Nat) (ds : List (Cs kLn.sz)), i ≤ ls.length ∧ s16 = .int .i64 i ∧ Ext w w' ∧ w'.heap[g]? = some (.cells (gcells ccf ds).toArray 86 (0, 0)) ∧ ds.length = ls.length ∧
  ∀ (j : Nat) (d : Cs kLn.sz) (x : Ln), ds[j]? = some d → ls[j]? = some x → (j < i → kLn.rep w' (fun q => w.heap.size ≤ q ∧ q ≠ g) x (ccf d)) ∧ ∃ u v, ccf d = [.int .i64 x.fr, .int .i64 x.un, u, v]
theorem CnR_own {w w' : World} {g n : Nat} {ls : List Ln} {ds : List (Cs kLn.sz)} (hn : n = ls.length) (hn2 : n ≤ 1000000) (hg : w.heap.size ≤ g) (h1 : w'.heap[g]? = some (.cells (gcells ccf ds).toArray 86 (0, 0))) (h2 : ds.length = ls.length)
    (h3 : ∀ (j : Nat) (d : Cs kLn.sz) (x : Ln), ds[j]? = some d → ls[j]? = some x → kLn.rep w' (fun q => w.heap.size ≤ q ∧ q ≠ g) x (ccf d)) : kLn.own 86 w' w.heap.size (fun q => w.heap.size ≤ q) (.slice (some ⟨g, 0, none⟩) n n) ls := by
  have hl := gcells_len (cf := ccf) ccf_len ds
  refine ⟨ds, ⟨gcells_len ccf_len _, .inr ⟨g, n, _, by rw [h2, hn], hg, h1, by rw [h2, hn]; exact Nat.le_refl _, by simp only [maxLen]; omega, by rw [List.size_toArray, hl, h2, hn], by rw [show (gcells ccf ds).toArray.toList = gcells ccf ds from rfl, List.take_of_length_le (by rw [hl]; exact Nat.le_refl _)]⟩⟩, h2, fun i d x hd hx => ?_⟩
  exact kLn.mono (h3 i d x hd hx) fun q hq _ => ⟨hq.1, by simp [Value.ownBlock]; omega⟩
theorem put2_eq (ds : List (Cs kLn.sz)) (i : Nat) (d : Cs kLn.sz) (hd : ds[i]? = some d) (a b u v x y : Value) (hc : ccf d = [a, b, u, v]) (d' : Cs kLn.sz) (hc' : ccf d' = [a, b, x, y]) : ((gcells ccf ds).set (i * 4 + 2) x).set (i * 4 + 3) y = gcells ccf (ds.set i d') := by
  have hi := (List.getElem?_eq_some_iff.1 hd).1
  have hl : (gcells ccf ds).length = ds.length * 4 := gcells_len ccf_len ds
  have h0 : (gcells ccf ds)[i * 4]? = some a := by
    have := gcells_at (cf := ccf) ccf_len ds i d hd 0 (by rw [kLn_sz]; omega)
    rw [hc] at this
    exact this
  have h1 : (gcells ccf ds)[i * 4 + 1]? = some b := by
    have := gcells_at (cf := ccf) ccf_len ds i d hd 1 (by rw [kLn_sz]; omega)
    rw [hc] at this
    exact this
  have e0 : (gcells ccf ds).set (i * 4) a = gcells ccf ds := by
    obtain ⟨hq, he⟩ := List.getElem?_eq_some_iff.1 h0
    rw [← he]; exact List.set_getElem_self hq
  have e1 : (gcells ccf ds).set (i * 4 + 1) b = gcells ccf ds := by
    obtain ⟨hq, he⟩ := List.getElem?_eq_some_iff.1 h1
    rw [← he]; exact List.set_getElem_self hq
  have h4 := set4_list (gcells ccf ds) (i * 4) (by rw [hl]; omega) a b x y
  rw [e0, e1] at h4
  rw [h4, gcells_set ds i d' hi, hc']
  rfl
/-- What the round leaves. -/
theorem CnR_step {w wr W : World} {ls : List Ln} {ds : List (Cs kLn.sz)} {i : Nat} {x : Ln} (hx : Ext w wr) (hcur : Ext wr W) (hg : wr.heap[w.heap.size]? = some (.cells (gcells ccf ds).toArray 86 (0, 0))) (hdl : ds.length = ls.length) (hi : ls[i]? = some x)
    (hd : ∀ (j : Nat) (d : Cs kLn.sz) (x : Ln), ds[j]? = some d → ls[j]? = some x → (j < i → kLn.rep wr (fun q => w.heap.size ≤ q ∧ q ≠ w.heap.size) x (ccf d)) ∧ ∃ u v, ccf d = [.int .i64 x.fr, .int .i64 x.un, u, v])
    {A1 A2 : Option Addr} {n1 n2 c1 c2 : Nat} (h1 : n1 ≤ c1) (h2 : n2 ≤ c2) (r1 : kInt.own 3 W wr.heap.size (fun _ => False) (.slice A1 n1 c1) x.gaps) (r2 : kInt.own 3 W wr.heap.size (fun _ => False) (.slice A2 n2 c2) x.nts) :
    CnR w w.heap.size ls (.int .i64 ((i : Int) + 1)) ((W.setCell ⟨w.heap.size, i * 4 + 2, none⟩ (.slice A1 n1 c1)).setCell ⟨w.heap.size, i * 4 + 3, none⟩ (.slice A2 n2 c2)) := by
  have hgr : w.heap.size < wr.heap.size := lt_of_block hg
  have hil := (List.getElem?_eq_some_iff.1 hi).1
  obtain ⟨d, hdi⟩ : ∃ d, ds[i]? = some d := ⟨_, List.getElem?_eq_getElem (by omega)⟩
  obtain ⟨_, u, v, hdc⟩ := hd i d x hdi hi
  have hgW : W.heap[w.heap.size]? = some (.cells (gcells ccf ds).toArray 86 (0, 0)) := (hcur.block _ hgr).trans hg
  have hkeep : ∀ q, q ≠ w.heap.size → ((W.setCell ⟨w.heap.size, i * 4 + 2, none⟩ (.slice A1 n1 c1)).setCell ⟨w.heap.size, i * 4 + 3, none⟩ (.slice A2 n2 c2)).heap[q]? = W.heap[q]? := fun q hq => by
    rw [heap_setCell_other _ ⟨w.heap.size, i * 4 + 3, none⟩ q _ hq, heap_setCell_other _ ⟨w.heap.size, i * 4 + 2, none⟩ q _ hq]
  have hrow : ∀ {A : Option Addr} {n c : Nat} {xs : List Int}, kInt.own 3 W wr.heap.size (fun _ => False) (.slice A n c) xs → kInt.row ((W.setCell ⟨w.heap.size, i * 4 + 2, none⟩ (.slice A1 n1 c1)).setCell ⟨w.heap.size, i * 4 + 3, none⟩ (.slice A2 n2 c2)) (fun q => w.heap.size ≤ q ∧ q ≠ w.heap.size) A n xs := fun {A n c xs} h => by
    obtain ⟨A9, c9, e9, _, h9⟩ := own_rowN (P := fun _ => False) (Q := fun q => w.heap.size ≤ q ∧ q ≠ w.heap.size) h (fun q hq _ => hq.elim) (fun q hq _ => ⟨by omega, by omega⟩)
    have e1 : A = A9 := by injection e9
    have e2 : n = xs.length := by injection e9
    rw [e1, e2]
    exact Lay.row_keep h9 (by simp) fun q hq _ => hkeep q hq.2
  have hrep : kLn.rep ((W.setCell ⟨w.heap.size, i * 4 + 2, none⟩ (.slice A1 n1 c1)).setCell ⟨w.heap.size, i * 4 + 3, none⟩ (.slice A2 n2 c2)) (fun q => w.heap.size ≤ q ∧ q ≠ w.heap.size) x [.int .i64 x.fr, .int .i64 x.un, .slice A1 n1 c1, .slice A2 n2 c2] :=
    kLn_rep.2 ⟨A1, n1, c1, A2, n2, c2, rfl, h1, h2, hrow r1, hrow r2⟩
  obtain ⟨d', hd'⟩ : ∃ d' : Cs kLn.sz, ccf d' = [.int .i64 x.fr, .int .i64 x.un, .slice A1 n1 c1, .slice A2 n2 c2] := mkCs _ (kLn.len hrep) (kLn.one hrep)
  refine ⟨i + 1, ds.set i d', by omega, by simp, ((hx.trans hcur).setCell (p := ⟨w.heap.size, i * 4 + 2, none⟩) (Nat.le_refl _) _).setCell (p := ⟨w.heap.size, i * 4 + 3, none⟩) (Nat.le_refl _) _, ?_, by rw [List.length_set]; exact hdl, fun j dj y hdj hyj => ?_⟩
  · rw [heap_setCell_same _ w.heap.size (i * 4 + 3) _ 86 _ (heap_setCell_same _ w.heap.size (i * 4 + 2) _ 86 _ hgW), ← put2_eq ds i d hdi _ _ u v _ _ hdc d' hd']
    simp
  · rw [List.getElem?_set] at hdj
    by_cases hij : i = j
    · subst hij
      rw [if_pos rfl, if_pos (by omega)] at hdj
      injection hdj with hdj
      subst hdj
      rw [hi] at hyj
      injection hyj with hyj
      subst hyj
      rw [hd']
      exact ⟨fun _ => hrep, _, _, rfl⟩
    · rw [if_neg hij] at hdj
      obtain ⟨g1, g2⟩ := hd j dj y hdj hyj
      exact ⟨fun hlt => kLn.keep (g1 (by omega)) (Nat.le_trans hcur.lt (by simp)) fun q hq hl => (hkeep q hq.2).trans (hcur.block q hl), g2⟩
set_option maxHeartbeats 8000000 in
set_option maxRecDepth 100000 in
theorem lclone_any (P : Nat → Prop) (w : World) (A : Option Addr) (n c : Nat) (ls : List Ln) (h : kLn.row w P A n ls) (hn : n ≤ 100000) (hs : ∀ x ∈ ls, x.gaps.length ≤ 1000000 ∧ x.nts.length ≤ 1000000) :
    Calls Tryz.prog 189 #[.slice A n c] w (fun e w' => ∃ A' c', e = .returned (.slice A' n c') ∧ n ≤ c' ∧ kLn.own 86 w' w.heap.size (fun q => w.heap.size ≤ q) (.slice A' n c') ls ∧ Ext w w') := by
  have hl := Lay.row_len h
  rcases Nat.eq_zero_or_pos n with h0 | h0
  · have hx : ls = [] := List.eq_nil_of_length_eq_zero (by omega)
    subst h0 hx
    clear h hs hl
    go_enter Tryz.func189, Tryz.ntmps189
    go_wp2_with fail
    go_ret
    exact ⟨none, 0, rfl, Nat.le_refl _, Lay.own_nil _ _ _ _ _, Ext.refl _⟩
  have HL := Lib.hid hl
  have HR := Lib.hid h
  have HS := Lib.hid hs
  have h0' : ¬ (n : Int) = 0 := by omega
  have h0'' : ¬ n = 0 := by omega
  obtain ⟨ds0, q1, q2, q3, q4, q5⟩ := h
  obtain ⟨b0, off, rfl, hb0, hcs⟩ := q3.2 h0
  have hmk := fun W => run_mk (P := Tryz.prog) Tryz.underlying82 info86 (by omega) n (by omega) (n : Int) rfl W
  obtain ⟨Z, hZ⟩ : ∃ Z, madeCells (Value.agg #[.int .i64 0, .int .i64 0, .slice none 0 0, .slice none 0 0]).cells (n * 4) = Z := ⟨_, rfl⟩
  simp only [hZ] at hmk
  have hzl : Z.size = n * kLn.sz := by
    have h9 := congrArg List.length (made_flat #[.int .i64 0, .int .i64 0, .slice none 0 0, .slice none 0 0] (by decide) n)
    rw [List.length_flatten, List.map_replicate, List.sum_replicate_nat] at h9
    rw [← hZ]
    exact h9
  have hgl : (gcells ccf ds0).length = n * kLn.sz := by rw [gcells_len ccf_len, q2, ← q1]
  have hcpy := run_copy_sz (P := Tryz.prog) (w.alloc (.cells Z 86)) 82 82 3 86 w.heap.size 0 n n kLn.sz ⟨b0, off, none⟩ n c Z 86 (gcells ccf ds0) Tryz.underlying82 (by kernel_rfl) (heap_alloc_new w _) (by rw [hgl]; exact congrArg (· * kLn.sz) (Nat.min_self n).symm) (fun j u hu => by
    have hj : j < ds0.length * kLn.sz := by rw [← gcells_len (cf := ccf) ccf_len]; exact (List.getElem?_eq_some_iff.1 hu).1
    have hjs : j / kLn.sz < ds0.length := Nat.div_lt_of_lt_mul (by rw [Nat.mul_comm]; exact hj)
    have e : j = j / kLn.sz * kLn.sz + j % kLn.sz := by rw [Nat.mul_comm]; exact (Nat.div_add_mod j kLn.sz).symm
    have hmod : j % kLn.sz < kLn.sz := Nat.mod_lt _ (by rw [kLn_sz]; omega)
    rw [e, gcells_at ccf_len ds0 (j / kLn.sz) _ (List.getElem?_eq_getElem hjs) (j % kLn.sz) hmod] at hu
    have := hcs (j / kLn.sz) _ (List.getElem?_eq_getElem hjs) (j % kLn.sz) u hu
    rw [Nat.add_assoc, ← e] at this
    rw [Addr.add_lit]
    exact (((Ext.refl w).alloc (.cells Z 86)).cells.1 b0 _ hb0).trans this) (by rw [hgl]; omega) (gcells_one ccf_one ds0)
  obtain ⟨w2, hw2⟩ : ∃ w2, (w.alloc (.cells Z 86)).setRow w.heap.size (Z.toList.take 0 ++ gcells ccf ds0 ++ Z.toList.drop (0 + (gcells ccf ds0).length)).toArray = w2 := ⟨_, rfl⟩
  rw [hw2] at hcpy
  have HG2 := Lib.hid (show w2.heap[w.heap.size]? = some (.cells (gcells ccf ds0).toArray 86 (0, 0)) by
    rw [← hw2, setRow_heap (w.alloc (.cells Z 86)) w.heap.size Z _ 86 (0, 0) (heap_alloc_new w _), hgl, List.take_zero, List.nil_append, List.drop_of_length_le (by rw [Array.length_toList, hzl]; omega), List.append_nil])
  have HX2 := Lib.hid (show Ext w w2 by rw [← hw2]; exact below_setRow ((Ext.refl w).alloc _) (Nat.le_refl _) _)
  have HD0 := Lib.hid (show ∀ (j : Nat) (d : Cs kLn.sz) (x : Ln), ds0[j]? = some d → ls[j]? = some x → ∃ u v, ccf d = [.int .i64 x.fr, .int .i64 x.un, u, v] from fun j d x hd hx => by
    obtain ⟨A1, n1, c1, A2, n2, c2, e, _⟩ := kLn_rep.1 (q5 j d x hd hx)
    exact ⟨_, _, e⟩)
  have HDL := Lib.hid q2
  have HCPY := Lib.hid hcpy
  clear hcpy hs hl q5 q4 q3 hw2 hcs q2 q1 hgl hzl hZ
  go_enter Tryz.func189, Tryz.ntmps189
  go_wp2_with (first | (refine wpList_copy_run' (s := .tmp 11) (x := .tmp 12) HCPY.out rfl rfl rfl rfl ?_))
  go_loopw [4, 16] (fun _ s16 w' => CnR w w.heap.size ls s16 w') (fun _ s16 _ => toM n s16)
  case atStart => exact ⟨0, ds0, by omega, rfl, HX2.out, HG2.out, HDL.out, fun j d x hd hx => ⟨fun h => by omega, HD0.out j d x hd hx⟩⟩
  case round =>
    obtain ⟨i, ds, hi, rfl, hx, hg, hdl, hd⟩ := hrel
    have HXr := Lib.hid hx
    have HG := Lib.hid hg
    have HDS := Lib.hid hd
    clear hx hg hd
    by_cases hlt : i < n
    case neg =>
      obtain rfl : n = i := by have := HL.out; omega
      have hni : ¬ ((n : Int) < (n : Int)) := by omega
      go_wp2_with fail
      go_ret
      exact ⟨some ⟨w.heap.size, 0, none⟩, n, rfl, Nat.le_refl _, CnR_own HL.out (by omega) (Nat.le_refl _) HG.out hdl fun j d x hdj hxj => (HDS.out j d x hdj hxj).1 (by have := HL.out; have := (List.getElem?_eq_some_iff.1 hxj).1; omega), HXr.out⟩
    have hI : (i : Int) < (n : Int) := by omega
    obtain ⟨x, hx⟩ : ∃ x, ls[i]? = some x := ⟨_, List.getElem?_eq_getElem (by have := HL.out; omega)⟩
    have hsx := HS.out x (List.mem_of_getElem? hx)
    obtain ⟨b1, o1, cs, e9, hb1, _, hrep, hcell⟩ := Lay.row_at (Lay.row_ext HR.out HXr.out) hx
    injection e9 with e9
    injection e9 with e9 e10
    subst e9 e10
    obtain ⟨A1, n1, c1, A2, n2, c2, rfl, h1, h2, hr1, hr2⟩ := kLn_rep.1 hrep
    have k2 := hcell 2 _ rfl
    have k3 := hcell 3 _ rfl
    rw [kLn_sz] at k2 k3
    have HC1 := Lib.hid (fun X (hX : Ext wr X) => clone_int P (fun _ => False) X A1 n1 c1 x.gaps (Lay.row_ext hr1 hX) (by have := Lay.row_len hr1; omega))
    have HC2 := Lib.hid (fun X (hX : Ext wr X) => clone_int P (fun _ => False) X A2 n2 c2 x.nts (Lay.row_ext hr2 hX) (by have := Lay.row_len hr2; omega))
    have hgr : w.heap.size < wr.heap.size := lt_of_block HG.out
    have hgl : (gcells ccf ds).length = ds.length * 4 := gcells_len ccf_len ds
    have HFZ := Lib.hid (show ∀ X, Ext wr X → (∃ u, X.cell? ⟨w.heap.size, i * 4 + 2, none⟩ = some u) ∧ (∃ u, X.cell? ⟨w.heap.size, i * 4 + 3, none⟩ = some u) ∧ X.frozen? ⟨w.heap.size, i * 4 + 2, none⟩ = false ∧ X.frozen? ⟨w.heap.size, i * 4 + 3, none⟩ = false from fun X hX => by
      have h9 := (hX.block _ hgr).trans HG.out
      exact ⟨⟨_, cell_of h9 (Array.getElem?_eq_getElem (by rw [List.size_toArray, hgl, hdl]; have := HL.out; omega))⟩, ⟨_, cell_of h9 (Array.getElem?_eq_getElem (by rw [List.size_toArray, hgl, hdl]; have := HL.out; omega))⟩, frozen_of h9 _, frozen_of h9 _⟩)
    have HQ := Lib.hid (fun X (hX : Ext wr X) => (show X.cell? ⟨b0, off + i * 4 + 2, none⟩ = some (.slice A1 n1 c1) ∧ X.cell? ⟨b0, off + i * 4 + 3, none⟩ = some (.slice A2 n2 c2) from ⟨(hX.cells.1 _ _ hb1).trans k2, (hX.cells.1 _ _ hb1).trans k3⟩))
    have HQ1 := Lib.hid (fun X (hX : Ext wr X) k u => (show (X.setCell ⟨w.heap.size, k, none⟩ u).cell? ⟨b0, off + i * 4 + 2, none⟩ = some (.slice A1 n1 c1) ∧ (X.setCell ⟨w.heap.size, k, none⟩ u).cell? ⟨b0, off + i * 4 + 3, none⟩ = some (.slice A2 n2 c2) from
      ⟨(World.cell?_setCell_other _ _ _ _ (by intro e; injection e with e; omega)).trans (HQ.out X hX).1, (World.cell?_setCell_other _ _ _ _ (by intro e; injection e with e; omega)).trans (HQ.out X hX).2⟩))
    have HQ2 := Lib.hid (fun X (hX : Ext wr X) k u k2 u2 => (show ((X.setCell ⟨w.heap.size, k, none⟩ u).setCell ⟨w.heap.size, k2, none⟩ u2).cell? ⟨b0, off + i * 4 + 2, none⟩ = some (.slice A1 n1 c1) ∧ ((X.setCell ⟨w.heap.size, k, none⟩ u).setCell ⟨w.heap.size, k2, none⟩ u2).cell? ⟨b0, off + i * 4 + 3, none⟩ = some (.slice A2 n2 c2) from
      ⟨(World.cell?_setCell_other _ _ _ _ (by intro e; injection e with e; omega)).trans (HQ1.out X hX k u).1, (World.cell?_setCell_other _ _ _ _ (by intro e; injection e with e; omega)).trans (HQ1.out X hX k u).2⟩))
    have hcur : Ext wr wr.drew := (Ext.refl _).drew
    have HXI := Lib.hid hx
    have hbg : ¬ b0 = w.heap.size := by omega
    clear hrep hcell hr1 hr2 hx hgl
    go_wp2_with fail
    go_region_held3 (fun W => W.cell? ⟨b0, off + i * 4 + 2, none⟩ = some (.slice A1 n1 c1) ∧ W.cell? ⟨b0, off + i * 4 + 3, none⟩ = some (.slice A2 n2 c2)) (first | exact HQ.out _ hcur | exact HQ1.out _ hcur _ _ | exact HQ2.out _ hcur _ _ _ _) (first
      | (go_at_call_of 128 (Value.slice A1 n1 c1); refine (HC1.out _ hcur).mono ?_; rintro e wG ⟨AG, cG, rfl, hG, hoG, hxG⟩; have hcur := hcur.trans hxG; obtain ⟨⟨u2, f0⟩, ⟨u3, f1⟩, f2, f3⟩ := HFZ.out _ hcur; have HOG := Lib.hid hoG; have HXG := Lib.hid hxG; clear hoG hxG)
      | (go_at_call_of 128 (Value.slice A2 n2 c2); refine (HC2.out _ hcur).mono ?_; rintro e wN ⟨AN, cN, rfl, hN, hoN, hxN⟩; have hcur := hcur.trans hxN; obtain ⟨⟨u2, f0⟩, ⟨u3, f1⟩, f2, f3⟩ := HFZ.out _ hcur; have HON := Lib.hid hoN; have HXN := Lib.hid hxN; clear hoN hxN))
    all_goals
      go_wp2_with fail
      go_roundw
      case rel =>
        refine CnR_step HXr.out hcur HG.out hdl HXI.out HDS.out hG hN ?_ ?_
        · first | exact own_base (Lay.own_ext HOG.out HXN.out) (Nat.le_refl _) | exact own_base HOG.out HXN.out.lt
        · first | exact own_base HON.out HXG.out.lt | exact own_base (Lay.own_ext HON.out HXG.out) (Nat.le_refl _)
      case measure => simp only [toM]; omega
end Go.Proofs.YtdbnddmncbjobaaGreatDoor

/- page.Set's closures: walked. -/
namespace Go.Proofs.YtdbnddmncbjobaaGreatDoor
open Go Go.RowKit

set_option maxHeartbeats 4000000 in
set_option maxRecDepth 100000 in
theorem room_any (w : World) (b5 b11 b12 : Nat) (h l s : Int) (h5 : w.cell? ⟨b5, 0, none⟩ = some (.int .i64 h)) (h11 : w.cell? ⟨b11, 0, none⟩ = some (.int .i64 l)) (h12 : w.cell? ⟨b12, 0, none⟩ = some (.int .i64 s)) (hh : 0 ≤ h ∧ h ≤ 100) (hl : 0 ≤ l ∧ l ≤ 10000000) (hs : 0 ≤ s ∧ s ≤ 10000000) :
    Calls Tryz.prog 187 #[.pointer (some ⟨b5, 0, none⟩), .pointer (some ⟨b11, 0, none⟩), .pointer (some ⟨b12, 0, none⟩)] w (fun e w' => e = .returned (.int .i64 (roomP h l s)) ∧ w' = w) := by
  obtain ⟨mn, hmn⟩ : ∃ mn, min s 1 = mn := ⟨_, rfl⟩
  have hm : 0 ≤ mn ∧ mn ≤ 1 := by omega
  have HR := Lib.hid (show roomP h l s = h - l - s - mn by unfold roomP; rw [hmn])
  clear hm
  go_enter Tryz.func187, Tryz.ntmps187
  go_wp2_with fail
  go_ret
  exact ⟨ret_i HR.out.symm, rfl⟩
theorem fits_end (w : World) (b3 b10 b11 b12 b13 : Nat) (A : Option Addr) (n c : Nat) (h11 : w.cell? ⟨b11, 0, none⟩ = some (.int .i64 n)) (h3 : w.cell? ⟨b3, 0, none⟩ = some (.slice A n c)) :
    Calls Tryz.prog 188 #[.pointer (some ⟨b11, 0, none⟩), .pointer (some ⟨b3, 0, none⟩), .pointer (some ⟨b13, 0, none⟩), .pointer (some ⟨b12, 0, none⟩), .pointer (some ⟨b10, 0, none⟩)] w (fun e w' => e = .returned (.bool false) ∧ ∃ k, w' = w.drewN k) := by
  go_enter Tryz.func188, Tryz.ntmps188
  go_wp2_with fail
  go_ret
  exact ⟨rfl, 0, rfl⟩
set_option maxHeartbeats 4000000 in
set_option maxRecDepth 100000 in
theorem fits_at (w : World) (b3 b5 b10 b11 b12 b13 b off : Nat) (n c l nq cq n2 c2 : Nat) (Aq A2 : Option Addr) (h s : Int) (q : List Ln) (x : Ln) (hl : l < n) (hn : n ≤ 1000000)
    (h11 : w.cell? ⟨b11, 0, none⟩ = some (.int .i64 l)) (h3 : w.cell? ⟨b3, 0, none⟩ = some (.slice (some ⟨b, off, none⟩) n c)) (h13 : w.cell? ⟨b13, 0, none⟩ = some (.func (.func 187) #[] #[.pointer (some ⟨b5, 0, none⟩), .pointer (some ⟨b11, 0, none⟩), .pointer (some ⟨b12, 0, none⟩)]))
    (h12 : w.cell? ⟨b12, 0, none⟩ = some (.int .i64 s)) (h10 : w.cell? ⟨b10, 0, none⟩ = some (.slice Aq nq cq)) (h5 : w.cell? ⟨b5, 0, none⟩ = some (.int .i64 h)) (hx : w.cell? ⟨b, off + l * 4 + 3, none⟩ = some (.slice A2 n2 c2)) (hx2 : n2 = x.nts.length) (hq : nq = q.length) (hq2 : nq ≤ 1000000) (hh : 0 ≤ h ∧ h ≤ 100) (hs : 0 ≤ s ∧ s ≤ 1000000) :
    Calls Tryz.prog 188 #[.pointer (some ⟨b11, 0, none⟩), .pointer (some ⟨b3, 0, none⟩), .pointer (some ⟨b13, 0, none⟩), .pointer (some ⟨b12, 0, none⟩), .pointer (some ⟨b10, 0, none⟩)] w (fun e w' => e = .returned (.bool (fitsP h q x l s)) ∧ ∃ k, w' = w.drewN k) := by
  have HRM := Lib.hid (fun k => room_any (w.drewN k) b5 b11 b12 h l s (by simpa using h5) (by simpa using h11) (by simpa using h12) hh (by omega) (by omega))
  have hrb : -20000000 ≤ roomP h l s ∧ roomP h l s ≤ 200 := by unfold roomP; omega
  obtain ⟨r, hr⟩ : ∃ r, roomP h l s = r := ⟨_, rfl⟩
  obtain ⟨fb, hfb⟩ : ∃ fb, fitsP h q x l s = fb := ⟨_, rfl⟩
  rw [hfb]
  have HF := Lib.hid hfb
  simp only [hr] at HRM hrb
  have HR := Lib.hid hr
  have hl2 : ¬ ((l : Int) = (n : Int)) := by omega
  have hl3 : (l : Int) < (n : Int) := by omega
  have hl4 : ((l : Int) == (n : Int)) = false := by rw [beq_eq_false_iff_ne]; exact hl2
  obtain ⟨hrb1, hrb2⟩ := hrb
  have HQ := Lib.hid hq
  have HX2 := Lib.hid hx2
  clear hr hfb hq hx2
  by_cases hn0 : n2 = 0
  · have HE := Lib.hid (show fb = decide (0 < r) by
      have h9 := HF.out
      unfold fitsP at h9
      rw [if_pos (List.eq_nil_of_length_eq_zero (by have := HX2.out; omega)), HR.out] at h9
      exact h9.symm)
    subst hn0
    go_enter Tryz.func188, Tryz.ntmps188
    go_wp2_with (first | (go_at_call 187; refine (HRM.out 0).mono ?_; rintro e w1 ⟨rfl, rfl⟩))
    go_ret
    exact ⟨by rw [HE.out]; rfl, 0, rfl⟩
  · have HE := Lib.hid (show fb = decide (s = q.length ∧ 3 - min s 1 ≤ r) by
      have h9 := HF.out
      unfold fitsP at h9
      rw [if_neg (fun e => by rw [e] at HX2; exact hn0 HX2.out), HR.out] at h9
      exact h9.symm)
    have hn1 : ¬ ((n2 : Int) = 0) := by omega
    by_cases hsq : s = (nq : Int)
    · subst hsq
      obtain ⟨mn, hmn⟩ : ∃ mn, min (nq : Int) 1 = mn := ⟨_, rfl⟩
      have hm : 0 ≤ mn ∧ mn ≤ 1 := by omega
      obtain ⟨hm1, hm2⟩ := hm
      have hw3 : IntKind.i64.wrap (3 - mn) = 3 - mn := IntWalk.i64_in _ (by omega)
      have HE2 := Lib.hid (show fb = decide (3 - mn ≤ r) by
        rw [HE.out, hmn]
        exact decide_eq_decide.2 ⟨fun h => h.2, fun h => ⟨by rw [HQ.out], h⟩⟩)
      go_enter Tryz.func188, Tryz.ntmps188
      go_wp2_with fail
      go_quiet (first | (go_at_call 187; refine Calls.quiet_of_same (HRM.out _)))
      go_wp2_with fail
      go_ret
      exact ⟨by rw [HE2.out]; rfl, _, rfl⟩
    · have HE2 := Lib.hid (show fb = false by
        rw [HE.out]
        exact decide_eq_false fun h => hsq (by rw [h.1, HQ.out]))
      have hsq2 : (s == (nq : Int)) = false := by rw [beq_eq_false_iff_ne]; exact hsq
      go_enter Tryz.func188, Tryz.ntmps188
      go_wp2_with fail
      go_quiet (first | (go_at_call 187; refine Calls.quiet_of_same (HRM.out _)))
      go_wp2_with fail
      go_ret
      exact ⟨by rw [HE2.out]; rfl, _, rfl⟩
end Go.Proofs.YtdbnddmncbjobaaGreatDoor

/- A row of the call's own from some element on: a queue, off whose front elements are taken. -/
namespace Go.Proofs.YtdbnddmncbjobaaGreatDoor
open Go Go.RowKit

variable {β : Type}
/-- The cells xs lie from a place of a block of its own on. -/
def rowQ (w : World) (base : Nat) (e : TypeId) (size : Nat) (v : Value) (n : Nat) (xs : List Value) : Prop :=
  xs.length = n * size ∧
  ((v = .slice none 0 0 ∧ n = 0) ∨
   ∃ g o cap cur, v = .slice (some ⟨g, o, none⟩) n cap ∧ base ≤ g ∧ w.heap[g]? = some (.cells cur e (0, 0)) ∧ n ≤ cap ∧ cap ≤ maxLen ∧ o + cap * size ≤ cur.size ∧ (cur.toList.drop o).take (n * size) = xs)
theorem rowQ_of {w : World} {base : Nat} {e : TypeId} {size : Nat} {v : Value} {n : Nat} {xs : List Value} (h : w.ownsRow base e size v n xs) : rowQ w base e size v n xs := by
  refine ⟨h.1, ?_⟩
  rcases h.2 with h | ⟨g, cap, cur, h1, h2, h3, h4, h5, h6, h7⟩
  · exact .inl h
  · exact .inr ⟨g, 0, cap, cur, h1, h2, h3, h4, h5, by omega, by simpa using h7⟩
theorem rowQ_cell {w : World} {base : Nat} {e : TypeId} {size g o n cap : Nat} {xs : List Value} (h : rowQ w base e size (.slice (some ⟨g, o, none⟩) n cap) n xs) : ∀ j u, xs[j]? = some u → w.cell? ⟨g, o + j, none⟩ = some u := by
  intro j u hu
  rcases h.2 with ⟨h, _⟩ | ⟨g', o', cap', cur, h1, h2, h3, h4, h5, h6, h7⟩
  · cases h
  · injection h1 with h1 _ _
    injection h1 with h1
    injection h1 with h1 h8 _
    subst h1 h8
    rw [← h7, List.getElem?_take] at hu
    split at hu
    · rw [List.getElem?_drop] at hu
      unfold World.cell?
      simp only [h3]
      simpa using hu
    · cases hu
theorem rowQ_append {P : Program} {w : World} {base : Nat} {t e : TypeId} {z : Value} {size bytes : Nat} (ht : P.underlying t = some (.slice e)) (hinfo : (P.info? e).map (fun i => (i.zero, i.size, i.bytes)) = some (some z, size, bytes))
    (hzs : z.cells.size = size) (hsz : 0 < size) {v : Value} {n : Nat} {xs : List Value} (hown : rowQ w base e size v n xs) {A : Option Addr} {m c : Nat} {news : List Value} (hl : news.length = m * size)
    (hA : 0 < m → ∃ b off, A = some ⟨b, off, none⟩ ∧ ∀ j u, news[j]? = some u → w.cell? ⟨b, off + j, none⟩ = some u) (h1 : ∀ u ∈ news, u.oneCell' = true)
    (h63 : n + m ≤ maxLen) (hbytes : (n + m) * bytes ≤ 140737488355328) (hbase : base ≤ w.heap.size) :
    ∃ A' c' w', (Builtin.append_ #[t, t] t #[v, .slice A m c]).run P w = .ok (.slice A' (n + m) c') w' ∧ rowQ w' base e size (.slice A' (n + m) c') (n + m) (xs ++ news) ∧ (∀ B, B ≤ base → Below B w w') ∧
      (∀ k, k < w.heap.size → v.ownBlock ≠ some k → w'.heap[k]? = w.heap[k]?) ∧ w.heap.size ≤ w'.heap.size ∧ (∀ j, (Value.slice A' (n + m) c').ownBlock = some j → v.ownBlock = some j ∨ w.heap.size ≤ j) := by
  by_cases h0 : m = 0
  · subst h0
    obtain rfl : news = [] := List.eq_nil_of_length_eq_zero (by simpa using hl)
    obtain ⟨i, hi, hz, hs, hb⟩ := info_parts hinfo
    obtain ⟨A', c', rfl, hr⟩ : ∃ A' c', v = .slice A' n c' ∧ (Builtin.append_ #[t, t] t #[v, .slice A 0 c]).run P w = .ok v w := by
      rcases hown.2 with ⟨rfl, rfl⟩ | ⟨g, o, cap, cur, rfl, _, _, hnc, _⟩
      · refine ⟨none, 0, rfl, ?_⟩
        rcases A with _ | ad
        · simp [Builtin.append_, run_underlying ht, sizeOf, typeInfo, hi, Builtin.lenOf, Builtin.firstCells]
        · have hl : (loadCells ad 0).run P w = .ok #[] w := by simpa using run_loadCells_list (P := P) w ad [] (by simp)
          simp [Builtin.append_, run_underlying ht, sizeOf, typeInfo, hi, Builtin.lenOf, Builtin.firstCells, hl]
      · refine ⟨some ⟨g, o, none⟩, cap, rfl, ?_⟩
        rcases A with _ | ad
        · simp [Builtin.append_, run_underlying ht, sizeOf, typeInfo, hi, Builtin.lenOf, Builtin.firstCells, hnc, storeCells]
        · have hl : (loadCells ad 0).run P w = .ok #[] w := by simpa using run_loadCells_list (P := P) w ad [] (by simp)
          simp [Builtin.append_, run_underlying ht, sizeOf, typeInfo, hi, Builtin.lenOf, Builtin.firstCells, hnc, storeCells, hl]
    exact ⟨A', c', w, hr, by simpa using hown, fun B _ => Below.refl B w, fun _ _ _ => rfl, Nat.le_refl _, fun j hj => .inl hj⟩
  obtain ⟨b, off, rfl, hcell⟩ := hA (by omega)
  rcases hown.2 with ⟨rfl, rfl⟩ | ⟨g, o, cap, cur, rfl, hbg, hg, hnc, hcm, hcs, htake⟩
  · obtain rfl : xs = [] := List.eq_nil_of_length_eq_zero (by simpa using hown.1)
    obtain ⟨A', c', w', r1, r2, r3, r4, r5⟩ := run_append_src5 (P := P) (t := t) ht hinfo hzs hsz (World.ownsRow_nil w base e size) (A := some ⟨b, off, none⟩) (m := m) (c := c) (news := news) hl (fun _ => ⟨b, off, rfl, hcell⟩) h1 (by simpa using h63) (by simpa using hbytes) hbase
    refine ⟨A', c', w', r1, rowQ_of r2, r3, fun k hk hne => r4 k hk (fun a => by simp), (r3 base (Nat.le_refl _)).size, fun j hj => ?_⟩
    rcases r5 with r5 | r5
    · exact .inl (r5.symm.trans hj)
    · rw [r5] at hj; injection hj with hj; exact .inr (by omega)
  · obtain ⟨i, hi, hz, hs, hb⟩ := info_parts hinfo
    by_cases hroom : n + m ≤ cap
    · subst hs
      have hfit : o + n * i.size + news.length ≤ cur.size := by
        have : (n + m) * i.size ≤ cap * i.size := Nat.mul_le_mul_right _ hroom
        rw [Nat.add_mul] at this
        omega
      have hlo := hown.1
      have hf := run_firstCells_some (P := P) w i.size m ⟨b, off, none⟩ m c news hl (fun j u hu => by rw [Addr.add_lit]; exact hcell j u hu)
      have hst := run_storeCells_at P g (o + n * i.size) e news 0 cur w hg (by simpa using hfit) h1
      simp only [Nat.add_zero] at hst
      have hr : (Builtin.append_ #[t, t] t #[.slice (some ⟨g, o, none⟩) n cap, .slice (some ⟨b, off, none⟩) m c]).run P w = .ok (.slice (some ⟨g, o, none⟩) (n + m) cap) (w.setRow g (cur.toList.take (o + n * i.size) ++ news ++ cur.toList.drop (o + n * i.size + news.length)).toArray) := by
        simp [Builtin.append_, run_underlying ht, sizeOf, typeInfo, hi, Builtin.lenOf, hroom, hf, Addr.add_lit, hst]
      refine ⟨_, _, _, hr, ⟨by rw [List.length_append, hlo, hl, Nat.add_mul], .inr ⟨g, o, cap, _, rfl, hbg, setRow_heap w g cur _ e _ hg, hroom, hcm, ?_, ?_⟩⟩, fun B hB => ⟨rfl, rfl, rfl, by simp [World.setRow], fun k hk => setRow_other w g k _ (by omega)⟩, fun k hk hne => setRow_other w g k _ (fun e => hne (by simp [Value.ownBlock, e])), by simp [World.setRow], fun j hj => .inl hj⟩
      · simp only [List.size_toArray, List.length_append, List.length_take, List.length_drop, Array.length_toList]
        omega
      · have h2 : (cur.toList.take (o + n * i.size)).drop o = xs := by rw [List.drop_take, show o + n * i.size - o = n * i.size by omega]; exact htake
        have h3 : (cur.toList.take (o + n * i.size)).length = o + n * i.size := by rw [List.length_take, Array.length_toList]; omega
        rw [List.append_assoc, List.drop_append, h2, h3, show o - (o + n * i.size) = 0 by omega, List.drop_zero, ← List.append_assoc, List.take_append, List.take_of_length_le (by rw [List.length_append, hlo, hl, Nat.add_mul]; omega),
          List.length_append, hlo, hl, Nat.add_mul, Nat.sub_self, List.take_zero, List.append_nil]
    · obtain ⟨v', w', r1, r2, r3⟩ := run_append_arg_grows (P := P) w t t e i z size bytes ht hi hz hs hb hzs hsz ⟨g, o, none⟩ n cap xs hown.1 (fun j u hu => by rw [Addr.add_lit]; exact rowQ_cell hown j u hu) ⟨b, off, none⟩ m c news hl (fun j u hu => by rw [Addr.add_lit]; exact hcell j u hu) (by omega) h63 hbytes
      obtain ⟨A', c', rfl, _, _⟩ := own_form r2
      refine ⟨A', c', w', r1, ?_, fun B hB => ?_, fun k hk hne => r3.block k hk (by simp), r3.size, fun j hj => .inr (r2.lt j hj).1⟩
      · have := rowQ_of r2
        refine ⟨this.1, ?_⟩
        rcases this.2 with h | ⟨g', o', cap', cur', h1, h2, h3⟩
        · exact .inl h
        · exact .inr ⟨g', o', cap', cur', h1, Nat.le_trans hbase h2, h3⟩
      · exact (Below.refl B w).grown r3 (Nat.le_trans hB hbase) (fun k hk => by cases hk)
/-- A queue: the slice v holds the elements xs in a row of the call's own, from some place on. -/
def Lay.que (k : Lay β) (e : TypeId) (W : World) (base : Nat) (P : Nat → Prop) (v : Value) (xs : List β) : Prop :=
  ∃ ds : List (Cs k.sz), rowQ W base e k.sz v ds.length (gcells ccf ds) ∧ ds.length = xs.length ∧ ∀ (i : Nat) (d : Cs k.sz) (x : β), ds[i]? = some d → xs[i]? = some x → k.rep W (fun j => P j ∧ v.ownBlock ≠ some j) x d.1
theorem Lay.que_nil (k : Lay β) (e : TypeId) (W : World) (base : Nat) (P : Nat → Prop) : k.que e W base P (.slice none 0 0) [] := ⟨[], ⟨by simp [gcells], .inl ⟨rfl, rfl⟩⟩, rfl, fun i d x hd => by simp at hd⟩
theorem rowQ_lt {w : World} {base : Nat} {e : TypeId} {size : Nat} {v : Value} {n : Nat} {xs : List Value} (h : rowQ w base e size v n xs) : ∀ j, v.ownBlock = some j → base ≤ j ∧ j < w.heap.size := by
  intro j hj
  rcases h.2 with ⟨rfl, _⟩ | ⟨g, o, cap, cur, rfl, h1, h2, _⟩
  · cases hj
  · injection hj with hj
    subst hj
    exact ⟨h1, lt_of_block h2⟩
theorem Lay.que_lt {k : Lay β} {e : TypeId} {W : World} {base : Nat} {P : Nat → Prop} {v : Value} {xs : List β} (h : k.que e W base P v xs) : ∀ j, v.ownBlock = some j → base ≤ j ∧ j < W.heap.size := by
  obtain ⟨ds, h1, _⟩ := h
  exact rowQ_lt h1
theorem Lay.que_keep {k : Lay β} {e : TypeId} {W W' : World} {base : Nat} {P : Nat → Prop} {v : Value} {xs : List β} (h : k.que e W base P v xs) (hs : W.heap.size ≤ W'.heap.size) (hk : ∀ j, (P j ∨ v.ownBlock = some j) → j < W.heap.size → W'.heap[j]? = W.heap[j]?) : k.que e W' base P v xs := by
  have hlt := Lay.que_lt h
  obtain ⟨ds, h1, h2, h3⟩ := h
  refine ⟨ds, ⟨h1.1, ?_⟩, h2, fun i d x hd hx => k.keep (h3 i d x hd hx) hs fun j hj hl => hk j (.inl hj.1) hl⟩
  rcases h1.2 with h | ⟨g, o, cap, cur, rfl, h4, h5, h6⟩
  · exact .inl h
  · exact .inr ⟨g, o, cap, cur, rfl, h4, by rw [hk g (.inr rfl) (lt_of_block h5)]; exact h5, h6⟩
theorem Lay.que_ext {k : Lay β} {e : TypeId} {W W' : World} {base : Nat} {P : Nat → Prop} {v : Value} {xs : List β} (h : k.que e W base P v xs) (hx : Ext W W') : k.que e W' base P v xs := Lay.que_keep h hx.lt fun j _ hj => hx.block j hj
theorem Lay.que_len {k : Lay β} {e : TypeId} {W : World} {base : Nat} {P : Nat → Prop} {v : Value} {xs : List β} (h : k.que e W base P v xs) : ∃ A c, v = .slice A xs.length c ∧ xs.length ≤ c ∧ c ≤ maxLen := by
  obtain ⟨ds, h1, h2, _⟩ := h
  rw [h2] at h1
  rcases h1.2 with ⟨rfl, h⟩ | ⟨g, o, cap, cur, rfl, _, _, h5, h6, _⟩
  · exact ⟨none, 0, by rw [h], by omega, by simp [maxLen]⟩
  · exact ⟨_, cap, rfl, h5, h6⟩
/-- A queue as a row. -/
theorem Lay.que_row {k : Lay β} {e : TypeId} {W : World} {base : Nat} {P : Nat → Prop} {A : Option Addr} {n c : Nat} {xs : List β} (h : k.que e W base P (.slice A n c) xs) : k.row W (fun j => P j ∨ (Value.slice A n c).ownBlock = some j) A n xs := by
  have hlt := Lay.que_lt h
  obtain ⟨ds, h1, h2, h3⟩ := h
  have hn : n = ds.length := by
    rcases h1.2 with ⟨h4, h5⟩ | ⟨g, o, cap, cur, h4, _⟩
    · injection h4 with _ h6 _; omega
    · injection h4 with _ h6 _
  subst hn
  refine ⟨ds, h2, h2, ⟨rfl, fun h0 => ?_⟩, fun x hx => ?_, fun i d x hd hx => k.mono (h3 i d x hd hx) fun j hj _ => .inl hj.1⟩
  · rcases h1.2 with ⟨h4, h5⟩ | ⟨g, o, cap, cur, h4, h6, h7, _⟩
    · omega
    · injection h4 with h4 _ h8
      subst h4 h8
      refine ⟨g, o, rfl, lt_of_block h7, fun i d hi j u hu => ?_⟩
      have hj : j < k.sz := by rw [← ccf_len d]; exact (List.getElem?_eq_some_iff.1 hu).1
      have := rowQ_cell h1 (i * k.sz + j) u ((gcells_at ccf_len ds i d hi j hj).trans hu)
      rw [Nat.add_assoc]; exact this
  · subst hx
    exact ⟨.inr rfl, (hlt x.block rfl).2⟩
/-- append of a row that lies in memory. -/
theorem Lay.que_append {k : Lay β} {Pr : Program} {t e : TypeId} {z : Value} {bytes : Nat} (ht : Pr.underlying t = some (.slice e)) (hinfo : (Pr.info? e).map (fun i => (i.zero, i.size, i.bytes)) = some (some z, k.sz, bytes)) (hzs : z.cells.size = k.sz) (hsz : 0 < k.sz) (hby : bytes ≤ 1000)
    {W : World} {base : Nat} {R : Nat → Prop} {v : Value} {xs : List β} (h : k.que e W base R v xs) {A : Option Addr} {m : Nat} {ys : List β} (hr : k.row W (fun j => R j ∧ v.ownBlock ≠ some j) A m ys) (c : Nat) (hm : xs.length + m ≤ 100000000) (hbase : base ≤ W.heap.size) :
    ∃ A' c' w', (Builtin.append_ #[t, t] t #[v, .slice A m c]).run Pr W = .ok (.slice A' (xs.length + m) c') w' ∧ k.que e w' base R (.slice A' (xs.length + m) c') (xs ++ ys) ∧ (∀ B, B ≤ base → Below B W w') ∧
      (∀ j, j < W.heap.size → v.ownBlock ≠ some j → w'.heap[j]? = W.heap[j]?) ∧ W.heap.size ≤ w'.heap.size ∧ (∀ j, (Value.slice A' (xs.length + m) c').ownBlock = some j → v.ownBlock = some j ∨ W.heap.size ≤ j) := by
  obtain ⟨ds, h1, h2, h3⟩ := h
  obtain ⟨ds', e1, hl, ⟨e2, hs⟩, hb, hrep⟩ := hr
  subst e2
  obtain ⟨A', c', w', r1, r2, r3, r4, r5, r6⟩ := rowQ_append (P := Pr) (t := t) ht hinfo hzs hsz h1 (A := A) (m := ds'.length) (c := c) (news := gcells ccf ds') (gcells_len ccf_len ds')
    (fun h0 => by
      obtain ⟨b, off, rfl, _, hc⟩ := hs h0
      refine ⟨b, off, rfl, fun j u hu => ?_⟩
      have hj : j < ds'.length * k.sz := by rw [← gcells_len (cf := ccf) ccf_len]; exact (List.getElem?_eq_some_iff.1 hu).1
      have hjs : j / k.sz < ds'.length := Nat.div_lt_of_lt_mul (by rw [Nat.mul_comm]; exact hj)
      have e : j = j / k.sz * k.sz + j % k.sz := by rw [Nat.mul_comm]; exact (Nat.div_add_mod j k.sz).symm
      have hmod : j % k.sz < k.sz := Nat.mod_lt _ hsz
      rw [e, gcells_at ccf_len ds' (j / k.sz) _ (List.getElem?_eq_getElem hjs) (j % k.sz) hmod] at hu
      have := hc (j / k.sz) _ (List.getElem?_eq_getElem hjs) (j % k.sz) u hu
      rw [Nat.add_assoc, ← e] at this
      exact this)
    (gcells_one ccf_one ds') (by simp only [maxLen]; omega) (Nat.le_trans (Nat.mul_le_mul (by omega) hby) (by omega : 100000000 * 1000 ≤ _)) hbase
  rw [h2] at r1 r2 r6
  refine ⟨A', c', w', r1, ⟨ds ++ ds', ?_, by simp [h2, hl], fun i d x hd hx => ?_⟩, r3, r4, r5, r6⟩
  · rw [List.length_append, h2, gcells_append]; exact r2
  · have hall : k.rep W (fun j => R j ∧ v.ownBlock ≠ some j) x d.1 := by
      rw [List.getElem?_append] at hd hx
      rw [h2] at hd
      split at hd
      · next hi => rw [if_pos hi] at hx; exact h3 i d x hd hx
      · next hi => rw [if_neg hi] at hx; exact hrep _ d x hd hx
    have h4 := k.mono (Q := fun j => R j ∧ v.ownBlock ≠ some j ∧ j < W.heap.size) hall fun j hj hl => ⟨hj.1, hj.2, hl⟩
    exact k.mono (k.keep h4 r5 fun j hj hl => r4 j hl hj.2.1) fun j hj _ => ⟨hj.1, fun e => by
      rcases r6 j e with h7 | h7
      · exact hj.2.1 h7
      · have := hj.2.2; omega⟩
/-- The front is taken off a queue. -/
theorem Lay.que_drop {k : Lay β} {e : TypeId} {W : World} {base : Nat} {R : Nat → Prop} {g o n c : Nat} {xs : List β} (h : k.que e W base R (.slice (some ⟨g, o, none⟩) n c) xs) (i : Nat) (hi : i ≤ n) : k.que e W base R (.slice (some ⟨g, o + i * k.sz, none⟩) (n - i) (c - i)) (xs.drop i) := by
  obtain ⟨ds, h1, h2, h3⟩ := h
  rcases h1.2 with ⟨h4, _⟩ | ⟨g', o', cap, cur, h4, h5, h6, h7, h8, h9, h10⟩
  · cases h4
  · injection h4 with h4 hn hc
    injection h4 with h4
    injection h4 with hg ho _
    subst hg ho hn hc
    have hi' : i * k.sz ≤ c * k.sz := Nat.mul_le_mul_right _ (by omega)
    refine ⟨ds.drop i, ⟨gcells_len ccf_len _, .inr ⟨g, o + i * k.sz, c - i, cur, by rw [List.length_drop], h5, h6, by rw [List.length_drop]; omega, by omega, by rw [Nat.sub_mul]; omega, ?_⟩⟩, by simp [h2], fun j d x hd hx => ?_⟩
    · have e1 : gcells ccf (ds.drop i) = (gcells ccf ds).drop (i * k.sz) := by
        have := gcells_append (cf := ccf) (ds.take i) (ds.drop i)
        rw [List.take_append_drop] at this
        have h11 : (gcells ccf (ds.take i)).length = i * k.sz := by rw [gcells_len ccf_len, List.length_take, Nat.min_eq_left hi]
        rw [this, ← h11, List.drop_left]
      rw [e1, ← h10, List.drop_take, List.drop_drop, List.length_drop, Nat.sub_mul]
    · rw [List.getElem?_drop] at hd hx
      exact h3 _ d x hd hx
end Go.Proofs.YtdbnddmncbjobaaGreatDoor

/- The rest of a row, of a queue: the cut 'x[l:]'. -/
namespace Go.Proofs.YtdbnddmncbjobaaGreatDoor
open Go Go.RowKit

theorem row_zero' {β : Type} {k : Lay β} {W : World} {P : Nat → Prop} {b o : Nat} {n : Nat} {xs : List β} (h : k.row W P (some ⟨b, o, none⟩) n xs) (o' : Nat) : k.row W P (some ⟨b, o', none⟩) 0 [] := by
  obtain ⟨ds, _, _, _, h4, _⟩ := h
  exact ⟨[], rfl, rfl, ⟨rfl, fun h => absurd h (Nat.lt_irrefl _)⟩, fun x hx => by injection hx with hx; subst hx; exact h4 ⟨b, o, none⟩ rfl, fun i d x hd => by simp at hd⟩
theorem que_form {β : Type} {k : Lay β} {e : TypeId} {W : World} {base : Nat} {P : Nat → Prop} {A : Option Addr} {n c : Nat} {xs : List β} (h : k.que e W base P (.slice A n c) xs) : (A = none ∧ n = 0 ∧ c = 0) ∨ ∃ g o, A = some ⟨g, o, none⟩ := by
  obtain ⟨ds, h1, _⟩ := h
  rcases h1.2 with ⟨h2, _⟩ | ⟨g, o, cap, cur, h2, _⟩
  · injection h2 with e1 e2 e3; exact .inl ⟨e1, e2, e3⟩
  · injection h2 with e1 e2 e3; exact .inr ⟨g, o, e1⟩
theorem que_empty' {β : Type} {k : Lay β} {e : TypeId} {W : World} {base : Nat} {R : Nat → Prop} {g o n c : Nat} {xs : List β} (h : k.que e W base R (.slice (some ⟨g, o, none⟩) n c) xs) : k.que e W base R (.slice (some ⟨g, o, none⟩) 0 0) [] := by
  obtain ⟨ds, h1, h2, h3⟩ := h
  rcases h1.2 with ⟨h4, _⟩ | ⟨g', o', cap, cur, h4, h5, h6, h7, h8, h9, h10⟩
  · cases h4
  · injection h4 with h4 hn hc
    injection h4 with h4
    injection h4 with hg ho _
    subst hg ho hn hc
    exact ⟨[], ⟨by simp [gcells], .inr ⟨g, o, 0, cur, rfl, h5, h6, Nat.le_refl _, by omega, by omega, by simp [gcells]⟩⟩, rfl, fun i d x hd => by simp at hd⟩
theorem slice_lo (b o n c l : Nat) (hl : l ≤ n) (hn : n ≤ c) (W : World) : (Instr.sliceAt 82 (.slice (some ⟨b, o, none⟩) n c) (some (.int .i64 (l : Int))) none none).run Tryz.prog W = .ok (.slice (some ⟨b, if c = l then o else o + l * 4, none⟩) (n - l) (c - l)) W := by
  have h1 : (l : Int) ≤ (n : Int) := by omega
  have h2 : (l : Int) ≤ (c : Int) := by omega
  by_cases h : c = l
  · subst h
    have : n = c := by omega
    subst this
    go_simp
  · rw [if_neg h]
    have h3 : ¬ l = c := fun e => h e.symm
    go_simp
theorem slice_lo_nil (W : World) : (Instr.sliceAt 82 (.slice none 0 0) (some (.int .i64 0)) none none).run Tryz.prog W = .ok (.slice none 0 0) W := by
  go_simp
theorem body_cut {W : World} {P : Nat → Prop} {b o nb cb : Nat} {bd : List Ln} (h : kLn.row W P (some ⟨b, o, none⟩) nb bd) (hc : nb ≤ cb) (l : Nat) (hl : l ≤ nb) : ∃ o' cb', nb - l ≤ cb' ∧ kLn.row W P (some ⟨b, o', none⟩) (nb - l) (bd.drop l) ∧
    ∀ X, (Instr.sliceAt 82 (.slice (some ⟨b, o, none⟩) nb cb) (some (.int .i64 (l : Int))) none none).run Tryz.prog X = .ok (.slice (some ⟨b, o', none⟩) (nb - l) cb') X := by
  refine ⟨_, _, ?_, ?_, slice_lo b o nb cb l hl hc⟩
  · omega
  · by_cases hcb : cb = l
    · rw [if_pos hcb, List.drop_of_length_le (by have := Lay.row_len h; omega), show nb - l = 0 by omega]
      exact row_zero' h o
    · rw [if_neg hcb]
      exact Lay.row_drop h l
theorem que_cut {W : World} {base : Nat} {P : Nat → Prop} {A : Option Addr} {c : Nat} {q : List Ln} (h : kLn.que 86 W base P (.slice A q.length c) q) (s : Nat) (hs : s ≤ q.length) (hc : q.length ≤ c) : ∃ A' c', kLn.que 86 W base P (.slice A' (q.drop s).length c') (q.drop s) ∧ (∀ j, (Value.slice A' (q.drop s).length c').ownBlock = some j → (Value.slice A q.length c).ownBlock = some j) ∧
    ∀ X, (Instr.sliceAt 82 (.slice A q.length c) (some (.int .i64 (s : Int))) none none).run Tryz.prog X = .ok (.slice A' (q.drop s).length c') X := by
  rcases que_form h with ⟨rfl, h0, rfl⟩ | ⟨g, o, rfl⟩
  · have hq := List.eq_nil_of_length_eq_zero h0
    subst hq
    obtain rfl : s = 0 := by simpa using hs
    exact ⟨none, 0, Lay.que_nil _ _ _ _ _, fun j hj => hj, slice_lo_nil⟩
  · refine ⟨some ⟨g, if c = s then o else o + s * 4, none⟩, c - s, ?_, fun j hj => hj, fun X => by rw [List.length_drop]; exact slice_lo g o q.length c s hs hc X⟩
    by_cases hcs : c = s
    · subst hcs
      rw [if_pos rfl, List.drop_of_length_le (by omega), Nat.sub_self]
      exact que_empty' h
    · rw [if_neg hcs, List.length_drop]
      exact Lay.que_drop h s hs
end Go.Proofs.YtdbnddmncbjobaaGreatDoor

/- book.parts, book.text: copies of a text, walked. -/
namespace Go.Proofs.YtdbnddmncbjobaaGreatDoor
open Go Go.RowKit

theorem own_wd {e : TypeId} {W : World} {base : Nat} {P Q : Nat → Prop} {v : Value} {xs : List Wd} (h : kWd.own e W base P v xs) : kWd.own e W base Q v xs := by
  obtain ⟨ds, h1, h2, h3⟩ := h
  exact ⟨ds, h1, h2, fun i d x hd hx => kWd_rep.2 (kWd_rep.1 (h3 i d x hd hx))⟩
theorem row_wd {W : World} {P : Nat → Prop} {A : Option Addr} {n : Nat} {xs : List Wd} (h : kWd.row W P A n xs) : kWd.row W (fun _ => True) A n xs := Lay.row_mono h fun _ _ _ => True.intro
theorem info60c : (Tryz.prog.info? 60).map (fun i => (i.zero, i.size, i.bytes)) = some (some (Value.agg #[.string ⟨#[]⟩, .string ⟨#[]⟩, .int .i64 0, .int .i64 0]), 4, 48) := by kernel_rfl
set_option maxHeartbeats 4000000 in
set_option maxRecDepth 100000 in
theorem wclone_any (P Q : Nat → Prop) (w : World) (A : Option Addr) (n c : Nat) (xs : List Wd) (h : kWd.row w P A n xs) (hn : n ≤ 1000000) :
    Calls Tryz.prog 150 #[.slice A n c] w (fun e w' => ∃ A' c', e = .returned (.slice A' n c') ∧ n ≤ c' ∧ kWd.own 60 w' w.heap.size Q (.slice A' n c') xs ∧ Ext w w') := by
  have hl := Lay.row_len h
  cases A with
  | none =>
    have h0 : n = 0 := by
      obtain ⟨ds, h1, h2, h3, _⟩ := h
      rcases Nat.eq_zero_or_pos n with h | h
      · exact h
      · obtain ⟨b, off, e, _⟩ := h3.2 h; cases e
    have hx : xs = [] := List.eq_nil_of_length_eq_zero (by omega)
    subst h0 hx
    clear h hl
    have q54 := fun (w : World) (a : Option Addr) (n c n' c' : Nat) => Lib.run_eql_slice_nil (P := Tryz.prog) w _ _ a n c n' c' Tryz.underlying54
    go_enter Tryz.func150, Tryz.ntmps150
    go_wp2_with fail
    go_ret
    exact ⟨none, 0, rfl, Nat.le_refl _, Lay.own_nil _ _ _ _ _, Ext.refl _⟩
  | some a =>
    have ho0 : kWd.own 60 (w.alloc (.cells #[] 60)) w.heap.size (fun _ => True) (.slice (some ⟨w.heap.size, 0, none⟩) 0 0) [] :=
      ⟨[], ⟨by simp [gcells], .inr ⟨w.heap.size, 0, #[], rfl, Nat.le_refl _, heap_alloc_new w _, Nat.le_refl _, by simp [maxLen], by simp, by simp [gcells]⟩⟩, rfl, fun i d x hd => by simp at hd⟩
    obtain ⟨A', c', w', hrun, ho, hx⟩ := own_app (Pr := Tryz.prog) (t := 54) (k := kWd) Tryz.underlying54 info60c rfl (by decide) (by omega) ho0 ((Ext.refl w).alloc _) (row_wd h) c (by simp; omega)
    rw [List.nil_append] at ho
    simp only [List.length_nil, Nat.zero_add] at hrun ho
    have hlen : n ≤ c' := by
      obtain ⟨A9, c9, e9, h9, _⟩ := Lay.own_row ho
      have : c' = c9 := by injection e9
      omega
    have HRUN := Lib.hid hrun
    have HO := Lib.hid ho
    have HX := Lib.hid hx
    clear h hl ho0 hrun ho hx
    have q54 := fun (w : World) (a : Option Addr) (n c n' c' : Nat) => Lib.run_eql_slice_nil (P := Tryz.prog) w _ _ a n c n' c' Tryz.underlying54
    go_enter Tryz.func150, Tryz.ntmps150
    go_wp2_with (first | (at_builtin; refine wpList_append_run (s := .tmp 5) (x := .tmp 6) HRUN.out rfl rfl rfl rfl rfl ?_))
    go_ret
    exact ⟨A', c', rfl, hlen, own_wd HO.out, HX.out⟩
def PtR (w : World) (ps : List (List Wd)) (s3 s8 : Value) (w' : World) : Prop := ∃ i : Nat, i ≤ ps.length ∧ s8 = .int .i64 i ∧ Ext w w' ∧ kWs.own 54 w' w.heap.size (fun j => w.heap.size ≤ j) s3 (ps.take i)
set_option maxHeartbeats 4000000 in
set_option maxRecDepth 100000 in
theorem parts_any (P : Nat → Prop) (w : World) (A : Option Addr) (n c : Nat) (ps : List (List Wd)) (h : kWs.row w P A n ps) (hn : n ≤ 1000000) (hp : ∀ p ∈ ps, p.length ≤ 1000000) :
    Calls Tryz.prog 132 #[.slice A n c] w (fun e w' => ∃ A' c', e = .returned (.slice A' n c') ∧ n ≤ c' ∧ kWs.own 54 w' w.heap.size (fun j => w.heap.size ≤ j) (.slice A' n c') ps ∧ Ext w w') := by
  have HL := Lib.hid (Lay.row_len h)
  have HR := Lib.hid h
  have HP := Lib.hid hp
  clear h hp
  go_enter Tryz.func132, Tryz.ntmps132
  go_wp2_with fail
  go_loopw [3, 8] (fun s3 s8 w' => PtR w ps s3 s8 w') (fun _ s8 _ => toM n s8)
  case atStart => exact ⟨0, by omega, rfl, Ext.refl _, Lay.own_nil _ _ _ _ _⟩
  case round =>
    obtain ⟨i, hi, rfl, hx, ho⟩ := hrel
    have HX := Lib.hid hx
    have HO := Lib.hid ho
    clear hx ho
    by_cases hlt : i < n
    case neg =>
      obtain rfl : n = i := by have := HL.out; omega
      have hni : ¬ ((n : Int) < (n : Int)) := by omega
      obtain ⟨A9, c9, rfl, hc9, _⟩ := Lay.own_row HO.out
      rw [List.take_of_length_le (by have := HL.out; omega)] at HO hc9
      go_wp2_with fail
      go_ret
      have e9 : (List.take n ps).length = n := by rw [List.length_take]; have := HL.out; omega
      have e8 : ps.length = n := HL.out.symm
      rw [e8] at HO hc9
      exact ⟨A9, c9, by rw [← e9]; rfl, hc9, HO.out, HX.out⟩
    have hI : (i : Int) < (n : Int) := by omega
    obtain ⟨p, hp⟩ : ∃ p, ps[i]? = some p := ⟨_, List.getElem?_eq_getElem (by have := HL.out; omega)⟩
    obtain ⟨b0, off, cs, rfl, hb0, _, hrep, hcell⟩ := Lay.row_at (Lay.row_ext HR.out HX.out) hp
    obtain ⟨Ap, cp, rfl, hcp, hrp⟩ := kWs_rep.1 hrep
    have hce := hcell 0 _ rfl
    rw [kWs_sz, Nat.mul_one, Nat.add_zero] at hce
    have HCL := Lib.hid (wclone_any P (fun _ => True) wr Ap p.length cp p hrp (HP.out p (List.mem_of_getElem? hp)))
    have HPI := Lib.hid hp
    clear hrep hrp hcell hp
    go_wp2_with fail
    refine HCL.out.mono ?_
    rintro e w2 ⟨Ac, cc, rfl, hcc, hoc, hx2⟩
    have hlto := Lay.own_lt HO.out
    obtain ⟨Ax, cx, e9, _, hrow⟩ := own_rowN (P := fun _ => False) (Q := fun j => wr.heap.size ≤ j) (own_wd hoc) (fun j hj _ => hj.elim) (fun j hj _ => hj)
    have e9a : Ac = Ax := by injection e9
    rw [← e9a] at hrow
    have hll : (ps.take i).length ≤ 1000000 := by rw [List.length_take]; omega
    obtain ⟨PL, hPL⟩ : ∃ PL, ps.take i = PL := ⟨_, rfl⟩
    rw [hPL] at hll
    have hoE := Lay.own_ext HO.out hx2
    rw [hPL] at hoE
    obtain ⟨A9, c9, w9, hrun, ho9, hb9, hk9, hs9, hn9⟩ := own_app1 (k := kWs) (Pr := Tryz.prog) (t := 51) Tryz.underlying51 info54 rfl (by decide) (by omega) hoE (Nat.le_trans HX.out.lt hx2.lt) (cs := #[.slice Ac p.length cc]) (T := 54) (x := p) (kWs_rep.2 ⟨Ac, cc, rfl, hcc, Lay.row_mono hrow fun j hj _ => ⟨Nat.le_trans HX.out.lt hj, fun e => by have := (hlto j e).2; omega⟩⟩) 1 (by omega)
    have HRUN := Lib.hid hrun
    have HREL := Lib.hid (show PtR w ps (.slice A9 (PL.length + 1) c9) (.int .i64 ((i : Int) + 1)) w9 from ⟨i + 1, by have := HL.out; omega, by simp, Below.trans (HX.out.trans hx2) (hb9 _ (Nat.le_refl _)), by rw [List.take_add_one, HPI.out, hPL]; exact ho9⟩)
    clear hrun ho9 hb9 hk9 hs9 hn9 hrow hoc hx2 hlto hll e9 e9a hoE hPL
    go_wp2_with (first | (at_builtin; refine wpList_append_run (s := .tmp 12) (x := .tmp 15) HRUN.out rfl rfl rfl rfl rfl ?_))
    go_roundw
    case rel => exact HREL.out
    case measure => simp only [toM]; omega
end Go.Proofs.YtdbnddmncbjobaaGreatDoor

/- The book in plain Lean: how pages are filled. -/
namespace Go.Proofs.YtdbnddmncbjobaaGreatDoor

/-- What a page under way holds is in order. -/
structure FillI (h : Int) (q : List Ln) (lines : Nat) (shown : Int) : Prop where
  pos : 0 ≤ shown
  le : shown ≤ q.length
  one : q ≠ [] → 1 ≤ shown
  room : 0 ≤ roomP h lines shown
theorem fillP_step {h : Int} {notes : List (List Ln)} {x : Ln} {q : List Ln} {lines : Nat} {shown : Int} (hi : FillI h q lines shown) (hf : fitsP h q x lines shown = true) :
    FillI h (q ++ notesOf notes x) (lines + 1) (showP h (q ++ notesOf notes x) (lines + 1) shown) ∧ shown ≤ showP h (q ++ notesOf notes x) (lines + 1) shown := by
  obtain ⟨h1, h2, h3, h4⟩ := hi
  have hq : q = [] ∧ q.length = 0 ∨ q ≠ [] ∧ 0 < q.length := by
    cases q with
    | nil => exact .inl ⟨rfl, rfl⟩
    | cons a b => exact .inr ⟨by simp, by simp⟩
  have hnil : x.nts = [] → (notesOf notes x).length = 0 := fun e => by unfold notesOf; rw [e]; rfl
  have hex : (q ++ notesOf notes x).length = q.length + (notesOf notes x).length := List.length_append
  have happ : q ++ notesOf notes x ≠ [] → 0 < q.length + (notesOf notes x).length := fun e => by rw [← hex]; exact List.length_pos_iff.2 e
  unfold fitsP at hf
  unfold showP
  have key : ∀ M : Int, (M = (((q ++ notesOf notes x).length : Int) - shown) ∨ M = roomP h (lines + 1 : Nat) shown - 1 + min shown 1) → M ≤ ((q ++ notesOf notes x).length : Int) - shown → M ≤ roomP h (lines + 1 : Nat) shown - 1 + min shown 1 → 0 < ((q ++ notesOf notes x).length : Int) - shown →
      FillI h (q ++ notesOf notes x) (lines + 1) (shown + M) ∧ shown ≤ shown + M := by
    intro M hM hM1 hM2 hpos
    rw [hex] at hM hM1 hpos
    have e1 : roomP h (lines + 1 : Nat) shown = roomP h lines shown - 1 := by unfold roomP; omega
    rw [e1] at hM hM2
    by_cases hx : x.nts = []
    · rw [if_pos hx] at hf
      have hf := of_decide_eq_true hf
      rw [hnil hx] at *
      rcases hq with ⟨_, hq⟩ | ⟨hq0, hq⟩
      · omega
      · have := h3 hq0
        refine ⟨⟨by omega, by rw [hex, hnil hx]; omega, fun _ => by omega, ?_⟩, by omega⟩
        unfold roomP at *; omega
    · rw [if_neg hx] at hf
      have hf := of_decide_eq_true hf
      refine ⟨⟨by omega, by rw [hex]; omega, fun _ => by omega, ?_⟩, by omega⟩
      unfold roomP at *; omega
  by_cases hm : 0 < ((q ++ notesOf notes x).length : Int) - shown
  · rw [if_pos hm]
    exact key _ (by omega) (by omega) (by omega) hm
  · rw [if_neg hm]
    refine ⟨⟨h1, by rw [hex]; omega, fun e => ?_, ?_⟩, Int.le_refl _⟩
    · have := happ e
      rw [hex] at hm
      omega
    · by_cases hx : x.nts = []
      · rw [if_pos hx] at hf
        have hf := of_decide_eq_true hf
        unfold roomP at *; omega
      · rw [if_neg hx] at hf
        have hf := of_decide_eq_true hf
        unfold roomP at *; omega
theorem fillP_ok (h : Int) (notes : List (List Ln)) : ∀ (body q : List Ln) (lines : Nat) (shown : Int), FillI h q lines shown →
    FillI h (fillP h notes body q lines shown).2.1 (fillP h notes body q lines shown).1 (fillP h notes body q lines shown).2.2 ∧
    lines ≤ (fillP h notes body q lines shown).1 ∧ (fillP h notes body q lines shown).1 ≤ lines + body.length ∧ shown ≤ (fillP h notes body q lines shown).2.2 ∧
    (fillP h notes body q lines shown).2.1 = q ++ (body.take ((fillP h notes body q lines shown).1 - lines)).flatMap (notesOf notes) := by
  intro body
  induction body with
  | nil => intro q lines shown hi; simp only [fillP]; exact ⟨hi, Nat.le_refl _, by simp, Int.le_refl _, by simp⟩
  | cons x r ih =>
    intro q lines shown hi
    simp only [fillP]
    split
    · next hf =>
      obtain ⟨h1, h2⟩ := fillP_step (notes := notes) hi hf
      obtain ⟨g1, g2, g3, g4, g5⟩ := ih _ _ _ h1
      refine ⟨g1, by omega, by simp only [List.length_cons]; omega, Int.le_trans h2 g4, ?_⟩
      refine g5.trans ?_
      generalize (fillP h notes r (q ++ notesOf notes x) (lines + 1) _).1 = n at g2 g3 ⊢
      have e : n - lines = (n - (lines + 1)) + 1 := by omega
      rw [e, List.take_succ_cons, List.flatMap_cons, List.append_assoc]
    · exact ⟨hi, Nat.le_refl _, by omega, Int.le_refl _, by simp⟩
theorem fill_start {h : Int} (hh : 4 ≤ h) (q : List Ln) : FillI h q 0 (min (q.length : Int) (h - 1)) := by
  refine ⟨by omega, by omega, fun e => ?_, by unfold roomP; omega⟩
  have := List.length_pos_iff.2 e
  omega
/-- A page takes something. -/
theorem fill_prog {h : Int} (hh : 4 ≤ h) (notes : List (List Ln)) (body q : List Ln) (hne : body ≠ [] ∨ q ≠ []) :
    0 < (fillP h notes body q 0 (min (q.length : Int) (h - 1))).1 + (fillP h notes body q 0 (min (q.length : Int) (h - 1))).2.2.toNat := by
  have hs := fill_start hh q
  obtain ⟨g1, g2, g3, g4, g5⟩ := fillP_ok h notes body q 0 _ hs
  by_cases hq : q = []
  · subst hq
    cases body with
    | nil => simp at hne
    | cons x r =>
      have hm : min ((([] : List Ln).length : Nat) : Int) (h - 1) = 0 := by simp; omega
      rw [hm]
      have hf : fitsP h [] x 0 0 = true := by
        unfold fitsP roomP
        split
        · simp; omega
        · simp; omega
      have h1 : fillP h notes (x :: r) [] 0 0 = fillP h notes r ([] ++ notesOf notes x) (0 + 1) (showP h ([] ++ notesOf notes x) (0 + 1) 0) := by
        rw [fillP, if_pos hf]
      rw [h1]
      have hi : FillI h [] 0 0 := by rw [hm] at hs; exact hs
      have := (fillP_ok h notes r _ _ _ (fillP_step (notes := notes) hi hf).1).2.1
      omega
  · have := hs.one hq
    have : 1 ≤ (fillP h notes body q 0 (min (q.length : Int) (h - 1))).2.2 := by omega
    omega
theorem leftP_fill (notes : List (List Ln)) (body q : List Ln) (n s : Nat) (hn : n ≤ body.length) (hs : s ≤ (q ++ (body.take n).flatMap (notesOf notes)).length) :
    leftP notes (body.drop n) ((q ++ (body.take n).flatMap (notesOf notes)).drop s) + n + s = leftP notes body q := by
  unfold leftP
  have h1 : (body.map fun x => 1 + (notesOf notes x).length).sum = ((body.take n).map fun x => 1 + (notesOf notes x).length).sum + ((body.drop n).map fun x => 1 + (notesOf notes x).length).sum := by
    rw [← List.sum_append, ← List.map_append, List.take_append_drop]
  have h2 : ∀ l : List Ln, (l.map fun x => 1 + (notesOf notes x).length).sum = l.length + (l.flatMap (notesOf notes)).length := fun l => by
    induction l with
    | nil => rfl
    | cons a l ih => simp only [List.map_cons, List.sum_cons, List.length_cons, List.flatMap_cons, List.length_append, ih]; omega
  rw [h1, h2 (body.take n), List.length_drop]
  rw [List.length_append] at hs ⊢
  have : (body.take n).length = n := by simp; omega
  omega
theorem setF_fuel {h : Int} (hh : 4 ≤ h) (notes : List (List Ln)) : ∀ (f g : Nat) (body q : List Ln), leftP notes body q ≤ f → leftP notes body q ≤ g → setF h notes f body q = setF h notes g body q := by
  have hz : ∀ (g : Nat) (body q : List Ln), leftP notes body q ≤ 0 → setF h notes g body q = [] := fun g body q hl => by
    have h1 : q = [] := List.eq_nil_of_length_eq_zero (by unfold leftP at hl; omega)
    have h2 : body = [] := by
      cases body with
      | nil => rfl
      | cons x r => unfold leftP at hl; simp only [List.map_cons, List.sum_cons] at hl; omega
    subst h1 h2
    cases g with
    | zero => rfl
    | succ g => rw [setF, if_pos ⟨rfl, rfl⟩]
  intro f
  induction f with
  | zero => intro g body q hf hg; rw [hz g body q hf, hz 0 body q hf]
  | succ f ih =>
    intro g body q hf hg
    cases g with
    | zero => rw [hz _ body q hg, hz 0 body q hg]
    | succ g =>
      by_cases h0 : body = [] ∧ q = []
      · rw [setF, setF, if_pos h0, if_pos h0]
      rw [setF, setF, if_neg h0, if_neg h0]
      have hp := fill_prog hh notes body q (by
        by_cases hb : body = []
        · exact .inr fun hq => h0 ⟨hb, hq⟩
        · exact .inl hb)
      obtain ⟨g1, _, g3, _, g5⟩ := fillP_ok h notes body q 0 _ (fill_start hh q)
      simp only
      congr 1
      generalize fillP h notes body q 0 (min (q.length : Int) (h - 1)) = r at hp g1 g3 g5
      simp only [Nat.sub_zero, Nat.zero_add] at g5 g3
      have hle : r.2.2.toNat ≤ r.2.1.length := by have := g1.le; have := g1.pos; omega
      have hl := leftP_fill notes body q r.1 r.2.2.toNat g3 (by rw [← g5]; exact hle)
      rw [← g5] at hl
      exact ih g _ _ (by omega) (by omega)
/-- One page, and the others. -/
theorem setF_step {h : Int} (hh : 4 ≤ h) (notes : List (List Ln)) (body q : List Ln) (h0 : ¬ (body = [] ∧ q = [])) (r : Nat × List Ln × Int) (hr : fillP h notes body q 0 (min (q.length : Int) (h - 1)) = r) :
    setF h notes (leftP notes body q) body q = (body.take r.1, r.2.1.take r.2.2.toNat) :: setF h notes (leftP notes (body.drop r.1) (r.2.1.drop r.2.2.toNat)) (body.drop r.1) (r.2.1.drop r.2.2.toNat) ∧
    leftP notes (body.drop r.1) (r.2.1.drop r.2.2.toNat) < leftP notes body q ∧ r.1 ≤ body.length ∧ r.2.2.toNat ≤ r.2.1.length := by
  subst hr
  have hp := fill_prog hh notes body q (by
    by_cases hb : body = []
    · exact .inr fun hq => h0 ⟨hb, hq⟩
    · exact .inl hb)
  obtain ⟨g1, _, g3, _, g5⟩ := fillP_ok h notes body q 0 _ (fill_start hh q)
  have hle : (fillP h notes body q 0 (min (q.length : Int) (h - 1))).2.2.toNat ≤ (fillP h notes body q 0 (min (q.length : Int) (h - 1))).2.1.length := by have := g1.le; have := g1.pos; omega
  simp only [Nat.sub_zero, Nat.zero_add] at g5 g3
  have hl := leftP_fill notes body q _ _ g3 (by rw [← g5]; exact hle)
  rw [← g5] at hl
  refine ⟨?_, by omega, g3, hle⟩
  obtain ⟨f, hf⟩ : ∃ f, leftP notes body q = f + 1 := ⟨leftP notes body q - 1, by omega⟩
  rw [hf, setF, if_neg h0]
  simp only
  congr 1
  exact setF_fuel hh notes _ _ _ _ (by omega) (Nat.le_refl _)
end Go.Proofs.YtdbnddmncbjobaaGreatDoor

/- A region that draws its order, where a load may be taken first although an operation at the region's end writes its cell: two conditions on the world, T behind every operation, S behind those outside E. -/
namespace Go.Proofs.YtdbnddmncbjobaaGreatDoor
open Go
section
variable {P : Program} {ops : Array Oper} {Q : Exit → Act → World → Prop} {md : Region.Mode} {S T : World → Prop} {E : Nat → Bool}

def CondE (S T : World → Prop) (E : Nat → Bool) (j : Nat) (w : World) : Prop := (E j = false → S w) ∧ T w
def wpE (P : Program) (md : Region.Mode) (ops : Array Oper) (Q : Exit → Act → World → Prop) (S T : World → Prop) (E : Nat → Bool) : Nat → Array Bool → Act → World → Prop
  | 0, l, a, w => Region.ready md ops l = [] ∧ Q .normal a w
  | n + 1, l, a, w => (Region.ready md ops l = [] → Q .normal a w) ∧ ∀ i ∈ Region.ready md ops l, wpOp P ops Q i (fun a' w' => CondE S T E i w' ∧ wpE P md ops Q S T E n (l.setIfInBounds i true) a' w') a w

theorem wpE_any : ∀ (n : Nat) (l : Array Bool) (a : Act) (w : World), wpE P md ops Q S T E n l a w → wpAny P md ops Q n l a w
  | 0, _, _, _, h => h
  | n + 1, _, _, _, h => ⟨h.1, fun i hi => wpOp_mono (fun _ _ g => wpE_any n _ _ _ g.2) (h.2 i hi)⟩

/-- No operation but i itself stands before i. -/
def Later (md : Region.Mode) (oj : Oper) (i : Nat) : Prop := ∀ e ∈ oj.after, Region.binds md e = true → e.on ≠ i
theorem wpE_first {U : World → Prop} {i : Nat} {oi : Oper} {v : Value} (hi : ops[i]? = some oi) (hsel : ∀ (j : Nat) (o : Oper) cs b, ops[j]? = some o → o.op ≠ .select cs b)
    (hQ : ∀ c a w, Q (.panic c) (a.put oi.dst v) w → Q (.panic c) a w) (hUC : ∀ w, U w → T w → CondE S T E i w) :
    ∀ (n : Nat) (l : Array Bool) (a : Act) (w : World),
      (∀ j oj, ops[j]? = some oj → j ≠ i → l.getD j true = false → Later md oj i → oi.apart ops oj = true ∧ ∀ w', CondE S T E j w' → U w') →
      i ∈ Region.ready md ops l → YieldsIf P ops U oi v a → U w → T w →
      wpE P md ops Q S T E n (l.setIfInBounds i true) (a.put oi.dst v) w → wpE P md ops Q S T E (n + 1) l a w := by
  intro n
  induction n with
  | zero =>
    intro l a w _ hr hy hU hC H
    refine ⟨fun h => absurd hr (by rw [h]; simp), fun j hj => ?_⟩
    by_cases e : j = i
    · subst e; exact hy.wpOp hi hU ⟨hUC _ hU hC, H⟩
    · exact absurd (ready_mono hj e) (by rw [H.1]; simp)
  | succ n ih =>
    intro l a w hf hr hy hU hC H
    refine ⟨fun h => absurd hr (by rw [h]; simp), fun j hj => ?_⟩
    by_cases e : j = i
    · subst e; exact hy.wpOp hi hU ⟨hUC _ hU hC, H⟩
    have hl := (mem_ready.1 hr).1
    obtain ⟨hju, oj, hoj, hall⟩ := mem_ready.1 hj
    have hlate : Later md oj i := fun d hd hb hon => by
      have h1 := hall d hd hb
      rw [hon] at h1
      by_cases hs : i < l.size
      · simp [hs] at hl h1; simp [hl] at h1
      · simp [Array.getElem?_eq_none (Nat.le_of_not_lt hs)] at h1
    obtain ⟨hap, hnext⟩ := hf j oj hoj e hju hlate
    have hmoved := wpOp_putIf hoj hap (fun cs b => hsel i oi cs b hi) (fun cs b => hsel j oj cs b hoj) hQ hy (H.2 j (ready_mono hj e))
    refine wpOp_mono (fun a' w' g => ?_) hmoved
    obtain ⟨g1, g2, g3⟩ := g
    refine ⟨g2, ih _ a' w' (fun k ok hk hki hku hkl => ?_) (ready_mono hr (Ne.symm e)) g1 (hnext w' g2) g2.2 (by rw [Array.setIfInBounds_comm _ _ e]; exact g3)⟩
    refine hf k ok hk hki ?_ hkl
    by_cases ejk : j = k
    · subst ejk; exact hju
    · rwa [getD_set_ne true ejk] at hku

/-- Every operation of E that has not come up yet waits for i. -/
def waitsB (md : Region.Mode) (ops : Array Oper) (l : Array Bool) (E : Nat → Bool) (i : Nat) : Bool :=
  (List.range ops.size).all fun j => !E j || l.getD j true || match ops[j]? with | some oj => oj.after.any (fun e => Region.binds md e && e.on == i) | none => true
theorem waitsB_spec {l : Array Bool} {i j : Nat} {oj : Oper} (h : waitsB md ops l E i = true) (hj : ops[j]? = some oj) (hl : l.getD j true = false) (hno : Later md oj i) : E j = false := by
  unfold waitsB at h
  rw [List.all_eq_true] at h
  have h1 := h j (List.mem_range.2 (Array.getElem?_eq_some_iff.1 hj).1)
  rw [hj, hl] at h1
  cases hE : E j with
  | false => rfl
  | true =>
    rw [hE] at h1
    simp only [Bool.not_true, Bool.or_false, Bool.false_or] at h1
    obtain ⟨e, he, h2⟩ := Array.any_eq_true'.1 h1
    simp only [Bool.and_eq_true, beq_iff_eq] at h2
    exact absurd h2.2 (hno e he h2.1)
/-- Take i first: what it yields hangs on T alone. -/
theorem wpE_takeT {i : Nat} {oi : Oper} {d : Option Tmp} {v : Value} {n : Nat} {l : Array Bool} {a : Act} {w : World} (hi : ops[i]? = some oi) (hd : oi.dst = d)
    (hs : Region.noSelect ops = true) (hf : Region.free md ops l i = true) (hr : (Region.ready md ops l).contains i = true) (hE : E i = true)
    (hQ : ∀ c a w, Q (.panic c) (a.put d v) w → Q (.panic c) a w) (hw : Region.wanted oi (yielded ops a.tmps) = true) (hy : ∀ w, T w → (execOp a.eval oi).run P w = .ok (.value v) w) (hT : T w)
    (h : wpE P md ops Q S T E n (l.setIfInBounds i true) (a.put d v) w) : wpE P md ops Q S T E (n + 1) l a w := by
  subst hd
  exact wpE_first (U := T) hi (Region.noSelect_spec hs) hQ (fun _ _ hT => ⟨fun h => absurd (hE.symm.trans h) (by simp), hT⟩) n l a w (fun j oj hj hne hun hno => ⟨Region.free_spec hi hf j oj hj hne hun hno, fun w' hC => hC.2⟩) (by simpa using hr) (.inl ⟨hw, hy⟩) hT hT h
/-- Take i first: what it yields hangs on S. -/
theorem wpE_takeS {i : Nat} {oi : Oper} {d : Option Tmp} {v : Value} {n : Nat} {l : Array Bool} {a : Act} {w : World} (hi : ops[i]? = some oi) (hd : oi.dst = d)
    (hs : Region.noSelect ops = true) (hf : Region.free md ops l i = true) (hr : (Region.ready md ops l).contains i = true) (hE : waitsB md ops l E i = true)
    (hQ : ∀ c a w, Q (.panic c) (a.put d v) w → Q (.panic c) a w) (hw : Region.wanted oi (yielded ops a.tmps) = true) (hy : ∀ w, S w → (execOp a.eval oi).run P w = .ok (.value v) w) (hS : S w) (hT : T w)
    (h : wpE P md ops Q S T E n (l.setIfInBounds i true) (a.put d v) w) : wpE P md ops Q S T E (n + 1) l a w := by
  subst hd
  exact wpE_first (U := S) hi (Region.noSelect_spec hs) hQ (fun _ hS hT => ⟨fun _ => hS, hT⟩) n l a w (fun j oj hj hne hun hno => ⟨Region.free_spec hi hf j oj hj hne hun hno, fun w' hC => hC.1 (waitsB_spec hE hj hun hno)⟩) (by simpa using hr) (.inl ⟨hw, hy⟩) hS hT h
def AllE (P : Program) (md : Region.Mode) (ops : Array Oper) (Q : Exit → Act → World → Prop) (S T : World → Prop) (E : Nat → Bool) (n : Nat) (l : Array Bool) (a : Act) (w : World) (rs : List Nat) : Prop :=
  ∀ i ∈ rs, wpOp P ops Q i (fun a' w' => CondE S T E i w' ∧ wpE P md ops Q S T E n (l.setIfInBounds i true) a' w') a w
theorem wpE_all {rs : List Nat} {n : Nat} {l : Array Bool} {a : Act} {w : World} (hr : Region.ready md ops l = rs) (hne : rs ≠ []) (h : AllE P md ops Q S T E n l a w rs) : wpE P md ops Q S T E (n + 1) l a w :=
  ⟨fun h0 => absurd (hr ▸ h0) hne, hr ▸ h⟩
theorem AllE.nil {n : Nat} {l : Array Bool} {a : Act} {w : World} : AllE P md ops Q S T E n l a w [] := fun i hi => by cases hi
/-- What follows the operation i, shut: 'out' opens it. -/
structure NextE (P : Program) (md : Region.Mode) (ops : Array Oper) (Q : Exit → Act → World → Prop) (S T : World → Prop) (E : Nat → Bool) (n : Nat) (l : Array Bool) (i : Nat) (K : Act → World → Prop) : Prop where
  out : ∀ a w, CondE S T E i w → (CondE S T E i w → wpE P md ops Q S T E n (l.setIfInBounds i true) a w) → K a w
theorem AllE.cons {n : Nat} {l : Array Bool} {a : Act} {w : World} {i : Nat} {o : Oper} {rs : List Nat} (ho : ops[i]? = some o)
    (h : ∀ K : Act → World → Prop, NextE P md ops Q S T E n l i K → if Region.wanted o (yielded ops a.tmps) = true then Oper.wp P o a w K Q else K (a.put o.dst undef) w)
    (hs : AllE P md ops Q S T E n l a w rs) : AllE P md ops Q S T E n l a w (i :: rs) := fun j hj => by
  rcases List.mem_cons.1 hj with e | e
  · subst e
    exact wpOp_step ho fun K hK => h K ⟨fun a w hC hN => hK a w ⟨hC, hN hC⟩⟩
  · exact hs j e
theorem wpE_done {l : Array Bool} {a : Act} {w : World} (hr : Region.ready md ops l = []) (h : Q .normal a w) : ∀ n, wpE P md ops Q S T E n l a w
  | 0 => ⟨hr, h⟩
  | _ + 1 => ⟨fun _ => h, by rw [hr]; simp⟩
theorem wp_region_E {id : Nat} {a : Act} {w : World} (S T : World → Prop) (E : Nat → Bool) (hm : P.follows .mixedOrders = true) (h : wpE P .any ops Q S T E ops.size (Array.replicate ops.size false) a w.drew) : (Code.region id ops true).wp P Q a w :=
  wp_region_any hm (wpE_any _ _ _ _ h)
end
end Go.Proofs.YtdbnddmncbjobaaGreatDoor
