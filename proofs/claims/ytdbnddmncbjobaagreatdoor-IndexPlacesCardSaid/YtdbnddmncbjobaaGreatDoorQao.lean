/- page.check at lines that are right: walked. -/
import Derived.Test.YtdbnddmncbjobaaGreatDoorQan
namespace Go.Proofs.YtdbnddmncbjobaaGreatDoor
section
open Go Go.RowKit

theorem lnone_any (A : Option Addr) (n c : Nat) (w : World) : Calls Tryz.prog 223 #[.slice A n c] w (fun e w' => e = .returned (.bool (decide (n = 0))) ∧ w' = w) := by
  obtain ⟨q, hq⟩ : ∃ q, q = decide (n = 0) := ⟨_, rfl⟩
  have HQ := Lib.hid hq
  by_cases h : n = 0
  · subst h
    go_enter Tryz.func223, Tryz.ntmps223
    go_wp2_with fail
    go_ret
    exact ⟨rfl, rfl⟩
  · have h' : ¬ (n : Int) = 0 := by omega
    clear hq HQ
    go_enter Tryz.func223, Tryz.ntmps223
    go_wp2_with fail
    go_ret
    exact ⟨by rw [decide_eq_false h]; simp [h], rfl⟩
theorem lines_none (P : Nat → Prop) (W : World) (A : Option Addr) (n c : Nat) (xs : List (List Ln)) (h : kLs.row W P A n xs) (hn : n ≤ 100000) :
    Calls Tryz.prog 222 #[.slice A n c, .func (.func 223) #[] #[]] W (fun e W' => e = .returned (.bool (xs.any fun p => decide (p.length = 0))) ∧ Ext W W') :=
  con222_223 kLs rfl _ P W A n c xs h hn fun X x u hx hr => by
    obtain ⟨A', n', c', e, _, h2⟩ := hr
    have hl := Lay.row_len h2
    subst hl
    obtain rfl : u = .slice A' x.length c' := by simpa using e
    exact (lnone_any A' x.length c' X).mono fun e w' ⟨h1, h2⟩ => ⟨h1, by rw [h2]; exact Ext.refl _⟩
theorem ordN_inv {nn n : Int} {r : List Int} {k K : Int} (h : ordN nn (n :: r) k = some K) : n = k ∧ n < nn ∧ ordN nn r (k + 1) = some K := by
  simp only [ordN] at h
  split at h
  · cases h
  · next h1 => exact ⟨by omega, by omega, h⟩
theorem ordL_inv {nn : Int} {x : Ln} {r : List Ln} {k K : Int} (h : ordL nn (x :: r) k = some K) : ∃ k1, ordN nn x.nts k = some k1 ∧ ordL nn r k1 = some K := by
  simp only [ordL] at h
  cases hx : ordN nn x.nts k with
  | none => rw [hx] at h; simp at h
  | some k1 => rw [hx] at h; exact ⟨k1, rfl, by simpa using h⟩
theorem chkPg_inv {body : List Ln} {notes : List (List Ln)} {h : Int} (hc : chkPg body notes h = 0) : 4 ≤ h ∧ h ≤ 100 ∧ notes.any (fun l => decide (l.length = 0)) = false ∧ ∃ K, ordL notes.length body 0 = some K ∧ (notes.length : Int) ≤ K := by
  unfold chkPg at hc
  split at hc
  · cases hc
  · next h1 =>
    split at hc
    · cases hc
    · next h2 =>
      refine ⟨by omega, by omega, by rw [Bool.eq_false_iff]; exact h2, ?_⟩
      split at hc
      · cases hc
      · next k hk =>
        split at hc
        · cases hc
        · next h3 => exact ⟨k, hk, by omega⟩
def PkO (w : World) (nn : Nat) (body : List Ln) (K : Int) (s7 s22 : Value) (w' : World) : Prop := ∃ i k : Nat, i ≤ body.length ∧ k ≤ nn ∧ s22 = .int .i64 i ∧ s7 = .int .i64 k ∧ Ext w w' ∧ ordL nn (body.drop i) k = some K
def PkI (w : World) (nn k0 : Nat) (l : List Int) (k1 : Int) (s7 s29 : Value) (w' : World) : Prop := ∃ j k : Nat, j ≤ l.length ∧ k = k0 + j ∧ k ≤ nn ∧ s29 = .int .i64 j ∧ s7 = .int .i64 k ∧ Ext w w' ∧ ordN nn (l.drop j) k = some k1
set_option maxHeartbeats 8000000 in
set_option maxRecDepth 100000 in
theorem pgcheck_any (P : Nat → Prop) (w : World) (A A' : Option Addr) (n n' c c' : Nat) (body : List Ln) (notes : List (List Ln)) (h : Int) (h1 : kLn.row w P A n body) (h2 : kLs.row w P A' n' notes) (hc : chkPg body notes h = 0) (hn : n ≤ 100000) (hn' : n' ≤ 100000) :
    Calls Tryz.prog 186 #[.slice A n c, .slice A' n' c', .int .i64 h] w (fun e w' => e = .returned (.int .i64 0) ∧ Ext w w') := by
  obtain ⟨k1, k2, k3, K, k4, k5⟩ := chkPg_inv hc
  have HE1 := Lib.hid (Lay.row_len h1)
  have HE2 := Lib.hid (Lay.row_len h2)
  have HR1 := Lib.hid h1
  have hnn := lines_none P w A' n' c' notes h2 hn'
  rw [k3] at hnn
  have HNN := Lib.hid hnn
  have HK4 := Lib.hid k4
  rw [← HE2.out] at HK4
  rw [← HE2.out] at k5
  have m1 : ¬ h < 4 := by omega
  have m2 : ¬ (100 : Int) < h := by omega
  clear h1 h2 hc k3 k4 hnn
  go_enter Tryz.func186, Tryz.ntmps186
  go_wp2_with (first | (go_at_call 222; refine HNN.out.mono ?_; rintro e w1 ⟨rfl, hx⟩; have HX := Lib.hid hx; clear hx))
  go_loopw [7, 22] (fun s7 s22 w' => PkO w1 n' body K s7 s22 w') (fun _ s22 _ => toM n s22)
  case atStart => exact ⟨0, 0, by omega, by omega, rfl, rfl, Ext.refl _, HK4.out⟩
  case round =>
    obtain ⟨i, k, hi, hk, rfl, rfl, hx, heq⟩ := hrel
    have HXr := Lib.hid hx
    have HEQ := Lib.hid heq
    clear hx heq
    by_cases hlt : i < n
    case neg =>
      obtain rfl : n = i := by have := HE1.out; omega
      have hni : ¬ ((n : Int) < (n : Int)) := by omega
      have hKk : K = k := by
        have h9 := HEQ.out
        rw [List.drop_of_length_le (by have := HE1.out; omega)] at h9
        injection h9 with h9
        exact h9.symm
      have hkn : ¬ ((k : Int) < (n' : Int)) := by omega
      go_wp2_with fail
      go_ret
      exact ⟨rfl, HX.out.trans HXr.out⟩
    have hI : (i : Int) < (n : Int) := by omega
    obtain ⟨x, hx⟩ : ∃ x, body[i]? = some x := ⟨_, List.getElem?_eq_getElem (by have := HE1.out; omega)⟩
    obtain ⟨k1, hk1, hk2⟩ := ordL_inv (by have h9 := HEQ.out; rw [dwl' _ hx] at h9; exact h9)
    obtain ⟨b0, off, cs, rfl, hb0, _, hrep, hcell⟩ := Lay.row_at (Lay.row_ext HR1.out (HX.out.trans HXr.out)) hx
    obtain ⟨A1, n1, c1, A2, n2, c2, rfl, _, _, hr1, hr2⟩ := kLn_rep.1 hrep
    have c0 := hcell 0 _ rfl
    have c1' := hcell 1 _ rfl
    have c2' := hcell 2 _ rfl
    have c3' := hcell 3 _ rfl
    rw [kLn_sz] at c0 c1' c2' c3'
    rw [Nat.add_zero] at c0
    have HR2 := Lib.hid hr2
    have HE3 := Lib.hid (Lay.row_len hr2)
    have HK1 := Lib.hid hk1
    have HK2 := Lib.hid hk2
    obtain ⟨x1, x2, x3, x4⟩ := x
    simp only at c0 c1' HR2 HE3 HK1
    clear hrep hcell hr1 hr2 hk1 hk2 hx
    go_wp2_with fail
    go_loopw [7, 29] (fun s7 s29 w' => PkI wr n' k x4 k1 s7 s29 w') (fun _ s29 _ => toM n2 s29)
    case atStart => exact ⟨0, k, by omega, rfl, hk, rfl, rfl, (Ext.refl _).alloc _, HK1.out⟩
    case round =>
      obtain ⟨j, k', hj, hkj, hk', rfl, rfl, hxi, heqi⟩ := hrel
      have hjn : j ≤ n' := by omega
      have HKJ := Lib.hid hkj
      clear hkj
      have HXi := Lib.hid hxi
      have HEQi := Lib.hid heqi
      clear hxi heqi
      by_cases hjl : j < n2
      case neg =>
        obtain rfl : n2 = j := by have := HE3.out; omega
        have hnj : ¬ ((n2 : Int) < (n2 : Int)) := by omega
        have HK := Lib.hid (show k1 = (k' : Int) by
          have h9 := HEQi.out
          rw [List.drop_of_length_le (by have := HE3.out; omega)] at h9
          injection h9 with h9
          exact h9.symm)
        go_wp2_with fail
        go_roundw
        case rel => exact ⟨i + 1, k', by have := HE1.out; omega, hk', by simp, rfl, HXr.out.trans HXi.out, by have h9 := HK2.out; rwa [HK.out] at h9⟩
        case measure => simp only [toM]; omega
      have hJ : (j : Int) < (n2 : Int) := by omega
      obtain ⟨y, hy⟩ : ∃ y, x4[j]? = some y := ⟨_, List.getElem?_eq_getElem (by have := HE3.out; omega)⟩
      obtain ⟨e1, e2, e3⟩ := ordN_inv (by have h9 := HEQi.out; rw [dwl' _ hy] at h9; exact h9)
      subst e1
      obtain ⟨b2, o2, rfl, hb2, _, hcell⟩ := int_at (Lay.row_ext HR2.out HXi.out) hy
      have HE := Lib.hid e3
      have e2' : ¬ ((n' : Int) ≤ (k' : Int)) := by omega
      clear hy e3
      go_wp2_with fail
      go_roundw
      case rel => exact ⟨j + 1, k' + 1, by have := HE3.out; omega, by have := HKJ.out; omega, by omega, by simp, by simp, HXi.out, HE.out⟩
      case measure => simp only [toM]; omega
end
section
open Go Go.RowKit

theorem ints_own {w : World} {base : Nat} {v : Value} {n : Nat} {xs : List Int} {P : Nat → Prop} (hn : n = xs.length) (h : w.ownsRow base 3 1 v n (xs.map (Value.int .i64))) : kInt.own 3 w base P v xs := by
  subst hn
  refine ⟨xs.map iCs, ?_, List.length_map .., fun i d x hd hx => ?_⟩
  · unfold OL
    rw [gcells_ints, List.length_map]
    exact h
  · obtain ⟨y, hy, rfl⟩ := iCs_at hd
    rw [hy] at hx
    injection hx with hx
    subst hx
    rfl
/-- slices.Clone of numbers. -/
theorem clone_int (P Q : Nat → Prop) (w : World) (A : Option Addr) (n c : Nat) (xs : List Int) (h : kInt.row w P A n xs) (hn : n ≤ 1000000) :
    Calls Tryz.prog 128 #[.slice A n c] w (fun e w' => ∃ A' c', e = .returned (.slice A' n c') ∧ n ≤ c' ∧ kInt.own 3 w' w.heap.size Q (.slice A' n c') xs ∧ Ext w w') := by
  have hl := Lay.row_len h
  have fin : ∀ (v' : Value) (w' : World), kInt.own 3 w' w.heap.size Q v' xs → Ext w w' → ∃ A' c', Ending.returned v' = .returned (.slice A' n c') ∧ n ≤ c' ∧ kInt.own 3 w' w.heap.size Q (.slice A' n c') xs ∧ Ext w w' := fun v' w' h1 h2 => by
    obtain ⟨A', c', e, hc, _⟩ := Lay.own_row h1
    subst e
    rw [hl]
    exact ⟨A', c', rfl, hc, h1, h2⟩
  cases A with
  | none =>
    have h0 : n = 0 := by
      obtain ⟨ds, h1, h2, h3, _⟩ := h
      rcases Nat.eq_zero_or_pos n with h | h
      · exact h
      · obtain ⟨b, off, e, _⟩ := h3.2 h; cases e
    have hx : xs = [] := List.eq_nil_of_length_eq_zero (by omega)
    subst h0 hx
    exact (Tryz.slices_Clone_int_nil 0 c w).mono fun e w' ⟨h1, h2⟩ => ⟨none, 0, h1, Nat.le_refl _, Lay.own_nil _ _ _ _ _, by rw [h2]; exact Ext.refl _⟩
  | some a =>
    rcases Nat.eq_zero_or_pos n with h0 | h0
    · have hx : xs = [] := List.eq_nil_of_length_eq_zero (by omega)
      subst h0 hx
      exact (Tryz.slices_Clone_int_zero a c w).mono fun e w' ⟨v', h1, h2, _, h3⟩ => by
        rw [h1]
        exact fin v' w' (ints_own rfl (by simpa using h2)) h3
    · obtain ⟨x0, hx0⟩ : ∃ x, xs[0]? = some x := ⟨_, List.getElem?_eq_getElem (by omega)⟩
      obtain ⟨b, off, e, _, _, _⟩ := int_at h hx0
      injection e with e
      subst e
      have hcell : ∀ j, j < xs.length → w.cell? ⟨b, off + j, none⟩ = some (.int .i64 (xs.getD j 0)) := fun j hj => by
        obtain ⟨b', off', e', _, _, hc⟩ := int_at h (List.getElem?_eq_getElem hj)
        injection e' with e'
        injection e' with e1 e2
        subst e1 e2
        rw [hc, List.getD_eq_getElem?_getD, List.getElem?_eq_getElem hj]
        rfl
      exact (Tryz.slices_Clone_int b off n c xs w (by omega) (by omega) hcell).mono fun e w' ⟨v', h1, h2, _, h3⟩ => by
        rw [h1]
        rw [List.take_of_length_le (by omega)] at h2
        exact fin v' w' (ints_own hl h2) h3
/-- The first i lines of the copy are its own. -/
def CnR (w : World) (g : Nat) (ls : List Ln) (s16 : Value) (w' : World) : Prop := ∃ (i : Nat) (ds : List (Cs kLn.sz)), i ≤ ls.length ∧ s16 = .int .i64 i ∧ Ext w w' ∧ w'.heap[g]? = some (.cells (gcells ccf ds).toArray 86 (0, 0)) ∧ ds.length = ls.length ∧
  ∀ (j : Nat) (d : Cs kLn.sz) (x : Ln), ds[j]? = some d → ls[j]? = some x → (j < i → kLn.rep w' (fun q => w.heap.size ≤ q ∧ q ≠ g) x (ccf d)) ∧ ∃ u v, ccf d = [.int .i64 x.fr, .int .i64 x.un, u, v]
theorem CnR_own {w w' : World} {g n : Nat} {ls : List Ln} {ds : List (Cs kLn.sz)} (hn : n = ls.length) (hn2 : n ≤ 1000000) (hg : w.heap.size ≤ g) (h1 : w'.heap[g]? = some (.cells (gcells ccf ds).toArray 86 (0, 0))) (h2 : ds.length = ls.length)
    (h3 : ∀ (j : Nat) (d : Cs kLn.sz) (x : Ln), ds[j]? = some d → ls[j]? = some x → kLn.rep w' (fun q => w.heap.size ≤ q ∧ q ≠ g) x (ccf d)) : kLn.own 86 w' w.heap.size (fun q => w.heap.size ≤ q) (.slice (some ⟨g, 0, none⟩) n n) ls := by
  have hl := gcells_len (cf := ccf) ccf_len ds
  refine ⟨ds, ⟨gcells_len ccf_len _, .inr ⟨g, n, _, by rw [h2, hn], hg, h1, by rw [h2, hn]; exact Nat.le_refl _, by simp only [maxLen]; omega, by rw [List.size_toArray, hl, h2, hn], by rw [show (gcells ccf ds).toArray.toList = gcells ccf ds from rfl, List.take_of_length_le (by rw [hl]; exact Nat.le_refl _)]⟩⟩, h2, fun i d x hd hx => ?_⟩
  exact kLn.mono (h3 i d x hd hx) fun q hq _ => ⟨hq.1, by simp [Value.ownBlock]; omega⟩
theorem put2_eq (ds : List (Cs kLn.sz)) (i : Nat) (d : Cs kLn.sz) (hd : ds[i]? = some d) (a b u v x y : Value) (hc : ccf d = [a, b, u, v]) (d' : Cs kLn.sz) (hc' : ccf d' = [a, b, x, y]) : ((gcells ccf ds).set (i * 4 + 2) x).set (i * 4 + 3) y = gcells ccf (ds.set i d') := by
  have hi := (List.getElem?_eq_some_iff.1 hd).1
  have hl : (gcells ccf ds).length = ds.length * 4 := gcells_len ccf_len ds
  have h0 : (gcells ccf ds)[i * 4]? = some a := by
    have := gcells_at (cf := ccf) ccf_len ds i d hd 0 (by rw [kLn_sz]; omega)
    rw [hc] at this
    exact this
  have h1 : (gcells ccf ds)[i * 4 + 1]? = some b := by
    have := gcells_at (cf := ccf) ccf_len ds i d hd 1 (by rw [kLn_sz]; omega)
    rw [hc] at this
    exact this
  have e0 : (gcells ccf ds).set (i * 4) a = gcells ccf ds := by
    obtain ⟨hq, he⟩ := List.getElem?_eq_some_iff.1 h0
    rw [← he]; exact List.set_getElem_self hq
  have e1 : (gcells ccf ds).set (i * 4 + 1) b = gcells ccf ds := by
    obtain ⟨hq, he⟩ := List.getElem?_eq_some_iff.1 h1
    rw [← he]; exact List.set_getElem_self hq
  have h4 := set4_list (gcells ccf ds) (i * 4) (by rw [hl]; omega) a b x y
  rw [e0, e1] at h4
  rw [h4, gcells_set ds i d' hi, hc']
  rfl
/-- What the round leaves. -/
theorem CnR_step {w wr W : World} {ls : List Ln} {ds : List (Cs kLn.sz)} {i : Nat} {x : Ln} (hx : Ext w wr) (hcur : Ext wr W) (hg : wr.heap[w.heap.size]? = some (.cells (gcells ccf ds).toArray 86 (0, 0))) (hdl : ds.length = ls.length) (hi : ls[i]? = some x)
    (hd : ∀ (j : Nat) (d : Cs kLn.sz) (x : Ln), ds[j]? = some d → ls[j]? = some x → (j < i → kLn.rep wr (fun q => w.heap.size ≤ q ∧ q ≠ w.heap.size) x (ccf d)) ∧ ∃ u v, ccf d = [.int .i64 x.fr, .int .i64 x.un, u, v])
    {A1 A2 : Option Addr} {n1 n2 c1 c2 : Nat} (h1 : n1 ≤ c1) (h2 : n2 ≤ c2) (r1 : kInt.own 3 W wr.heap.size (fun _ => False) (.slice A1 n1 c1) x.gaps) (r2 : kInt.own 3 W wr.heap.size (fun _ => False) (.slice A2 n2 c2) x.nts) :
    CnR w w.heap.size ls (.int .i64 ((i : Int) + 1)) ((W.setCell ⟨w.heap.size, i * 4 + 2, none⟩ (.slice A1 n1 c1)).setCell ⟨w.heap.size, i * 4 + 3, none⟩ (.slice A2 n2 c2)) := by
  have hgr : w.heap.size < wr.heap.size := lt_of_block hg
  have hil := (List.getElem?_eq_some_iff.1 hi).1
  obtain ⟨d, hdi⟩ : ∃ d, ds[i]? = some d := ⟨_, List.getElem?_eq_getElem (by omega)⟩
  obtain ⟨_, u, v, hdc⟩ := hd i d x hdi hi
  have hgW : W.heap[w.heap.size]? = some (.cells (gcells ccf ds).toArray 86 (0, 0)) := (hcur.block _ hgr).trans hg
  have hkeep : ∀ q, q ≠ w.heap.size → ((W.setCell ⟨w.heap.size, i * 4 + 2, none⟩ (.slice A1 n1 c1)).setCell ⟨w.heap.size, i * 4 + 3, none⟩ (.slice A2 n2 c2)).heap[q]? = W.heap[q]? := fun q hq => by
    rw [heap_setCell_other _ ⟨w.heap.size, i * 4 + 3, none⟩ q _ hq, heap_setCell_other _ ⟨w.heap.size, i * 4 + 2, none⟩ q _ hq]
  have hrow : ∀ {A : Option Addr} {n c : Nat} {xs : List Int}, kInt.own 3 W wr.heap.size (fun _ => False) (.slice A n c) xs → kInt.row ((W.setCell ⟨w.heap.size, i * 4 + 2, none⟩ (.slice A1 n1 c1)).setCell ⟨w.heap.size, i * 4 + 3, none⟩ (.slice A2 n2 c2)) (fun q => w.heap.size ≤ q ∧ q ≠ w.heap.size) A n xs := fun {A n c xs} h => by
    obtain ⟨A9, c9, e9, _, h9⟩ := own_rowN (P := fun _ => False) (Q := fun q => w.heap.size ≤ q ∧ q ≠ w.heap.size) h (fun q hq _ => hq.elim) (fun q hq _ => ⟨by omega, by omega⟩)
    have e1 : A = A9 := by injection e9
    have e2 : n = xs.length := by injection e9
    rw [e1, e2]
    exact Lay.row_keep h9 (by simp) fun q hq _ => hkeep q hq.2
  have hrep : kLn.rep ((W.setCell ⟨w.heap.size, i * 4 + 2, none⟩ (.slice A1 n1 c1)).setCell ⟨w.heap.size, i * 4 + 3, none⟩ (.slice A2 n2 c2)) (fun q => w.heap.size ≤ q ∧ q ≠ w.heap.size) x [.int .i64 x.fr, .int .i64 x.un, .slice A1 n1 c1, .slice A2 n2 c2] :=
    kLn_rep.2 ⟨A1, n1, c1, A2, n2, c2, rfl, h1, h2, hrow r1, hrow r2⟩
  obtain ⟨d', hd'⟩ : ∃ d' : Cs kLn.sz, ccf d' = [.int .i64 x.fr, .int .i64 x.un, .slice A1 n1 c1, .slice A2 n2 c2] := mkCs _ (kLn.len hrep) (kLn.one hrep)
  refine ⟨i + 1, ds.set i d', by omega, by simp, ((hx.trans hcur).setCell (p := ⟨w.heap.size, i * 4 + 2, none⟩) (Nat.le_refl _) _).setCell (p := ⟨w.heap.size, i * 4 + 3, none⟩) (Nat.le_refl _) _, ?_, by rw [List.length_set]; exact hdl, fun j dj y hdj hyj => ?_⟩
  · rw [heap_setCell_same _ w.heap.size (i * 4 + 3) _ 86 _ (heap_setCell_same _ w.heap.size (i * 4 + 2) _ 86 _ hgW), ← put2_eq ds i d hdi _ _ u v _ _ hdc d' hd']
    simp
  · rw [List.getElem?_set] at hdj
    by_cases hij : i = j
    · subst hij
      rw [if_pos rfl, if_pos (by omega)] at hdj
      injection hdj with hdj
      subst hdj
      rw [hi] at hyj
      injection hyj with hyj
      subst hyj
      rw [hd']
      exact ⟨fun _ => hrep, _, _, rfl⟩
    · rw [if_neg hij] at hdj
      obtain ⟨g1, g2⟩ := hd j dj y hdj hyj
      exact ⟨fun hlt => kLn.keep (g1 (by omega)) (Nat.le_trans hcur.lt (by simp)) fun q hq hl => (hkeep q hq.2).trans (hcur.block q hl), g2⟩
set_option maxHeartbeats 8000000 in
set_option maxRecDepth 100000 in
theorem lclone_any (P : Nat → Prop) (w : World) (A : Option Addr) (n c : Nat) (ls : List Ln) (h : kLn.row w P A n ls) (hn : n ≤ 100000) (hs : ∀ x ∈ ls, x.gaps.length ≤ 1000000 ∧ x.nts.length ≤ 1000000) :
    Calls Tryz.prog 189 #[.slice A n c] w (fun e w' => ∃ A' c', e = .returned (.slice A' n c') ∧ n ≤ c' ∧ kLn.own 86 w' w.heap.size (fun q => w.heap.size ≤ q) (.slice A' n c') ls ∧ Ext w w') := by
  have hl := Lay.row_len h
  rcases Nat.eq_zero_or_pos n with h0 | h0
  · have hx : ls = [] := List.eq_nil_of_length_eq_zero (by omega)
    subst h0 hx
    clear h hs hl
    go_enter Tryz.func189, Tryz.ntmps189
    go_wp2_with fail
    go_ret
    exact ⟨none, 0, rfl, Nat.le_refl _, Lay.own_nil _ _ _ _ _, Ext.refl _⟩
  have HL := Lib.hid hl
  have HR := Lib.hid h
  have HS := Lib.hid hs
  have h0' : ¬ (n : Int) = 0 := by omega
  have h0'' : ¬ n = 0 := by omega
  obtain ⟨ds0, q1, q2, q3, q4, q5⟩ := h
  obtain ⟨b0, off, rfl, hb0, hcs⟩ := q3.2 h0
  have hmk := fun W => run_mk (P := Tryz.prog) Tryz.underlying82 info86 (by omega) n (by omega) (n : Int) rfl W
  obtain ⟨Z, hZ⟩ : ∃ Z, madeCells (Value.agg #[.int .i64 0, .int .i64 0, .slice none 0 0, .slice none 0 0]).cells (n * 4) = Z := ⟨_, rfl⟩
  simp only [hZ] at hmk
  have hzl : Z.size = n * kLn.sz := by
    have h9 := congrArg List.length (made_flat #[.int .i64 0, .int .i64 0, .slice none 0 0, .slice none 0 0] (by decide) n)
    rw [List.length_flatten, List.map_replicate, List.sum_replicate_nat] at h9
    rw [← hZ]
    exact h9
  have hgl : (gcells ccf ds0).length = n * kLn.sz := by rw [gcells_len ccf_len, q2, ← q1]
  have hcpy := run_copy_sz (P := Tryz.prog) (w.alloc (.cells Z 86)) 82 82 3 86 w.heap.size 0 n n kLn.sz ⟨b0, off, none⟩ n c Z 86 (gcells ccf ds0) Tryz.underlying82 (by kernel_rfl) (heap_alloc_new w _) (by rw [hgl]; exact congrArg (· * kLn.sz) (Nat.min_self n).symm) (fun j u hu => by
    have hj : j < ds0.length * kLn.sz := by rw [← gcells_len (cf := ccf) ccf_len]; exact (List.getElem?_eq_some_iff.1 hu).1
    have hjs : j / kLn.sz < ds0.length := Nat.div_lt_of_lt_mul (by rw [Nat.mul_comm]; exact hj)
    have e : j = j / kLn.sz * kLn.sz + j % kLn.sz := by rw [Nat.mul_comm]; exact (Nat.div_add_mod j kLn.sz).symm
    have hmod : j % kLn.sz < kLn.sz := Nat.mod_lt _ (by rw [kLn_sz]; omega)
    rw [e, gcells_at ccf_len ds0 (j / kLn.sz) _ (List.getElem?_eq_getElem hjs) (j % kLn.sz) hmod] at hu
    have := hcs (j / kLn.sz) _ (List.getElem?_eq_getElem hjs) (j % kLn.sz) u hu
    rw [Nat.add_assoc, ← e] at this
    rw [Addr.add_lit]
    exact (((Ext.refl w).alloc (.cells Z 86)).cells.1 b0 _ hb0).trans this) (by rw [hgl]; omega) (gcells_one ccf_one ds0)
  obtain ⟨w2, hw2⟩ : ∃ w2, (w.alloc (.cells Z 86)).setRow w.heap.size (Z.toList.take 0 ++ gcells ccf ds0 ++ Z.toList.drop (0 + (gcells ccf ds0).length)).toArray = w2 := ⟨_, rfl⟩
  rw [hw2] at hcpy
  have HG2 := Lib.hid (show w2.heap[w.heap.size]? = some (.cells (gcells ccf ds0).toArray 86 (0, 0)) by
    rw [← hw2, setRow_heap (w.alloc (.cells Z 86)) w.heap.size Z _ 86 (0, 0) (heap_alloc_new w _), hgl, List.take_zero, List.nil_append, List.drop_of_length_le (by rw [Array.length_toList, hzl]; omega), List.append_nil])
  have HX2 := Lib.hid (show Ext w w2 by rw [← hw2]; exact below_setRow ((Ext.refl w).alloc _) (Nat.le_refl _) _)
  have HD0 := Lib.hid (show ∀ (j : Nat) (d : Cs kLn.sz) (x : Ln), ds0[j]? = some d → ls[j]? = some x → ∃ u v, ccf d = [.int .i64 x.fr, .int .i64 x.un, u, v] from fun j d x hd hx => by
    obtain ⟨A1, n1, c1, A2, n2, c2, e, _⟩ := kLn_rep.1 (q5 j d x hd hx)
    exact ⟨_, _, e⟩)
  have HDL := Lib.hid q2
  have HCPY := Lib.hid hcpy
  clear hcpy hs hl q5 q4 q3 hw2 hcs q2 q1 hgl hzl hZ
  go_enter Tryz.func189, Tryz.ntmps189
  go_wp2_with (first | (refine wpList_copy_run' (s := .tmp 11) (x := .tmp 12) HCPY.out rfl rfl rfl rfl ?_))
  go_loopw [4, 16] (fun _ s16 w' => CnR w w.heap.size ls s16 w') (fun _ s16 _ => toM n s16)
  case atStart => exact ⟨0, ds0, by omega, rfl, HX2.out, HG2.out, HDL.out, fun j d x hd hx => ⟨fun h => by omega, HD0.out j d x hd hx⟩⟩
  case round =>
    obtain ⟨i, ds, hi, rfl, hx, hg, hdl, hd⟩ := hrel
    have HXr := Lib.hid hx
    have HG := Lib.hid hg
    have HDS := Lib.hid hd
    clear hx hg hd
    by_cases hlt : i < n
    case neg =>
      obtain rfl : n = i := by have := HL.out; omega
      have hni : ¬ ((n : Int) < (n : Int)) := by omega
      go_wp2_with fail
      go_ret
      exact ⟨some ⟨w.heap.size, 0, none⟩, n, rfl, Nat.le_refl _, CnR_own HL.out (by omega) (Nat.le_refl _) HG.out hdl fun j d x hdj hxj => (HDS.out j d x hdj hxj).1 (by have := HL.out; have := (List.getElem?_eq_some_iff.1 hxj).1; omega), HXr.out⟩
    have hI : (i : Int) < (n : Int) := by omega
    obtain ⟨x, hx⟩ : ∃ x, ls[i]? = some x := ⟨_, List.getElem?_eq_getElem (by have := HL.out; omega)⟩
    have hsx := HS.out x (List.mem_of_getElem? hx)
    obtain ⟨b1, o1, cs, e9, hb1, _, hrep, hcell⟩ := Lay.row_at (Lay.row_ext HR.out HXr.out) hx
    injection e9 with e9
    injection e9 with e9 e10
    subst e9 e10
    obtain ⟨A1, n1, c1, A2, n2, c2, rfl, h1, h2, hr1, hr2⟩ := kLn_rep.1 hrep
    have k2 := hcell 2 _ rfl
    have k3 := hcell 3 _ rfl
    rw [kLn_sz] at k2 k3
    have HC1 := Lib.hid (fun X (hX : Ext wr X) => clone_int P (fun _ => False) X A1 n1 c1 x.gaps (Lay.row_ext hr1 hX) (by have := Lay.row_len hr1; omega))
    have HC2 := Lib.hid (fun X (hX : Ext wr X) => clone_int P (fun _ => False) X A2 n2 c2 x.nts (Lay.row_ext hr2 hX) (by have := Lay.row_len hr2; omega))
    have hgr : w.heap.size < wr.heap.size := lt_of_block HG.out
    have hgl : (gcells ccf ds).length = ds.length * 4 := gcells_len ccf_len ds
    have HFZ := Lib.hid (show ∀ X, Ext wr X → (∃ u, X.cell? ⟨w.heap.size, i * 4 + 2, none⟩ = some u) ∧ (∃ u, X.cell? ⟨w.heap.size, i * 4 + 3, none⟩ = some u) ∧ X.frozen? ⟨w.heap.size, i * 4 + 2, none⟩ = false ∧ X.frozen? ⟨w.heap.size, i * 4 + 3, none⟩ = false from fun X hX => by
      have h9 := (hX.block _ hgr).trans HG.out
      exact ⟨⟨_, cell_of h9 (Array.getElem?_eq_getElem (by rw [List.size_toArray, hgl, hdl]; have := HL.out; omega))⟩, ⟨_, cell_of h9 (Array.getElem?_eq_getElem (by rw [List.size_toArray, hgl, hdl]; have := HL.out; omega))⟩, frozen_of h9 _, frozen_of h9 _⟩)
    have HQ := Lib.hid (fun X (hX : Ext wr X) => (show X.cell? ⟨b0, off + i * 4 + 2, none⟩ = some (.slice A1 n1 c1) ∧ X.cell? ⟨b0, off + i * 4 + 3, none⟩ = some (.slice A2 n2 c2) from ⟨(hX.cells.1 _ _ hb1).trans k2, (hX.cells.1 _ _ hb1).trans k3⟩))
    have HQ1 := Lib.hid (fun X (hX : Ext wr X) k u => (show (X.setCell ⟨w.heap.size, k, none⟩ u).cell? ⟨b0, off + i * 4 + 2, none⟩ = some (.slice A1 n1 c1) ∧ (X.setCell ⟨w.heap.size, k, none⟩ u).cell? ⟨b0, off + i * 4 + 3, none⟩ = some (.slice A2 n2 c2) from
      ⟨(World.cell?_setCell_other _ _ _ _ (by intro e; injection e with e; omega)).trans (HQ.out X hX).1, (World.cell?_setCell_other _ _ _ _ (by intro e; injection e with e; omega)).trans (HQ.out X hX).2⟩))
    have HQ2 := Lib.hid (fun X (hX : Ext wr X) k u k2 u2 => (show ((X.setCell ⟨w.heap.size, k, none⟩ u).setCell ⟨w.heap.size, k2, none⟩ u2).cell? ⟨b0, off + i * 4 + 2, none⟩ = some (.slice A1 n1 c1) ∧ ((X.setCell ⟨w.heap.size, k, none⟩ u).setCell ⟨w.heap.size, k2, none⟩ u2).cell? ⟨b0, off + i * 4 + 3, none⟩ = some (.slice A2 n2 c2) from
      ⟨(World.cell?_setCell_other _ _ _ _ (by intro e; injection e with e; omega)).trans (HQ1.out X hX k u).1, (World.cell?_setCell_other _ _ _ _ (by intro e; injection e with e; omega)).trans (HQ1.out X hX k u).2⟩))
    have hcur : Ext wr wr.drew := (Ext.refl _).drew
    have HXI := Lib.hid hx
    have hbg : ¬ b0 = w.heap.size := by omega
    clear hrep hcell hr1 hr2 hx hgl
    go_wp2_with fail
    go_region_held3 (fun W => W.cell? ⟨b0, off + i * 4 + 2, none⟩ = some (.slice A1 n1 c1) ∧ W.cell? ⟨b0, off + i * 4 + 3, none⟩ = some (.slice A2 n2 c2)) (first | exact HQ.out _ hcur | exact HQ1.out _ hcur _ _ | exact HQ2.out _ hcur _ _ _ _) (first
      | (go_at_call_of 128 (Value.slice A1 n1 c1); refine (HC1.out _ hcur).mono ?_; rintro e wG ⟨AG, cG, rfl, hG, hoG, hxG⟩; have hcur := hcur.trans hxG; obtain ⟨⟨u2, f0⟩, ⟨u3, f1⟩, f2, f3⟩ := HFZ.out _ hcur; have HOG := Lib.hid hoG; have HXG := Lib.hid hxG; clear hoG hxG)
      | (go_at_call_of 128 (Value.slice A2 n2 c2); refine (HC2.out _ hcur).mono ?_; rintro e wN ⟨AN, cN, rfl, hN, hoN, hxN⟩; have hcur := hcur.trans hxN; obtain ⟨⟨u2, f0⟩, ⟨u3, f1⟩, f2, f3⟩ := HFZ.out _ hcur; have HON := Lib.hid hoN; have HXN := Lib.hid hxN; clear hoN hxN))
    all_goals
      go_wp2_with fail
      go_roundw
      case rel =>
        refine CnR_step HXr.out hcur HG.out hdl HXI.out HDS.out hG hN ?_ ?_
        · first | exact own_base (Lay.own_ext HOG.out HXN.out) (Nat.le_refl _) | exact own_base HOG.out HXN.out.lt
        · first | exact own_base HON.out HXG.out.lt | exact own_base (Lay.own_ext HON.out HXG.out) (Nat.le_refl _)
      case measure => simp only [toM]; omega
end
section
open Go Go.RowKit

set_option maxHeartbeats 4000000 in
set_option maxRecDepth 100000 in
theorem room_any (w : World) (b5 b11 b12 : Nat) (h l s : Int) (h5 : w.cell? ⟨b5, 0, none⟩ = some (.int .i64 h)) (h11 : w.cell? ⟨b11, 0, none⟩ = some (.int .i64 l)) (h12 : w.cell? ⟨b12, 0, none⟩ = some (.int .i64 s)) (hh : 0 ≤ h ∧ h ≤ 100) (hl : 0 ≤ l ∧ l ≤ 10000000) (hs : 0 ≤ s ∧ s ≤ 10000000) :
    Calls Tryz.prog 187 #[.pointer (some ⟨b5, 0, none⟩), .pointer (some ⟨b11, 0, none⟩), .pointer (some ⟨b12, 0, none⟩)] w (fun e w' => e = .returned (.int .i64 (roomP h l s)) ∧ w' = w) := by
  obtain ⟨mn, hmn⟩ : ∃ mn, min s 1 = mn := ⟨_, rfl⟩
  have hm : 0 ≤ mn ∧ mn ≤ 1 := by omega
  have HR := Lib.hid (show roomP h l s = h - l - s - mn by unfold roomP; rw [hmn])
  clear hm
  go_enter Tryz.func187, Tryz.ntmps187
  go_wp2_with fail
  go_ret
  exact ⟨ret_i HR.out.symm, rfl⟩
theorem fits_end (w : World) (b3 b10 b11 b12 b13 : Nat) (A : Option Addr) (n c : Nat) (h11 : w.cell? ⟨b11, 0, none⟩ = some (.int .i64 n)) (h3 : w.cell? ⟨b3, 0, none⟩ = some (.slice A n c)) :
    Calls Tryz.prog 188 #[.pointer (some ⟨b11, 0, none⟩), .pointer (some ⟨b3, 0, none⟩), .pointer (some ⟨b13, 0, none⟩), .pointer (some ⟨b12, 0, none⟩), .pointer (some ⟨b10, 0, none⟩)] w (fun e w' => e = .returned (.bool false) ∧ ∃ k, w' = w.drewN k) := by
  go_enter Tryz.func188, Tryz.ntmps188
  go_wp2_with fail
  go_ret
  exact ⟨rfl, 0, rfl⟩
set_option maxHeartbeats 4000000 in
set_option maxRecDepth 100000 in
theorem fits_at (w : World) (b3 b5 b10 b11 b12 b13 b off : Nat) (n c l nq cq n2 c2 : Nat) (Aq A2 : Option Addr) (h s : Int) (q : List Ln) (x : Ln) (hl : l < n) (hn : n ≤ 1000000)
    (h11 : w.cell? ⟨b11, 0, none⟩ = some (.int .i64 l)) (h3 : w.cell? ⟨b3, 0, none⟩ = some (.slice (some ⟨b, off, none⟩) n c)) (h13 : w.cell? ⟨b13, 0, none⟩ = some (.func (.func 187) #[] #[.pointer (some ⟨b5, 0, none⟩), .pointer (some ⟨b11, 0, none⟩), .pointer (some ⟨b12, 0, none⟩)]))
    (h12 : w.cell? ⟨b12, 0, none⟩ = some (.int .i64 s)) (h10 : w.cell? ⟨b10, 0, none⟩ = some (.slice Aq nq cq)) (h5 : w.cell? ⟨b5, 0, none⟩ = some (.int .i64 h)) (hx : w.cell? ⟨b, off + l * 4 + 3, none⟩ = some (.slice A2 n2 c2)) (hx2 : n2 = x.nts.length) (hq : nq = q.length) (hq2 : nq ≤ 1000000) (hh : 0 ≤ h ∧ h ≤ 100) (hs : 0 ≤ s ∧ s ≤ 1000000) :
    Calls Tryz.prog 188 #[.pointer (some ⟨b11, 0, none⟩), .pointer (some ⟨b3, 0, none⟩), .pointer (some ⟨b13, 0, none⟩), .pointer (some ⟨b12, 0, none⟩), .pointer (some ⟨b10, 0, none⟩)] w (fun e w' => e = .returned (.bool (fitsP h q x l s)) ∧ ∃ k, w' = w.drewN k) := by
  have HRM := Lib.hid (fun k => room_any (w.drewN k) b5 b11 b12 h l s (by simpa using h5) (by simpa using h11) (by simpa using h12) hh (by omega) (by omega))
  have hrb : -20000000 ≤ roomP h l s ∧ roomP h l s ≤ 200 := by unfold roomP; omega
  obtain ⟨r, hr⟩ : ∃ r, roomP h l s = r := ⟨_, rfl⟩
  obtain ⟨fb, hfb⟩ : ∃ fb, fitsP h q x l s = fb := ⟨_, rfl⟩
  rw [hfb]
  have HF := Lib.hid hfb
  simp only [hr] at HRM hrb
  have HR := Lib.hid hr
  have hl2 : ¬ ((l : Int) = (n : Int)) := by omega
  have hl3 : (l : Int) < (n : Int) := by omega
  have hl4 : ((l : Int) == (n : Int)) = false := by rw [beq_eq_false_iff_ne]; exact hl2
  obtain ⟨hrb1, hrb2⟩ := hrb
  have HQ := Lib.hid hq
  have HX2 := Lib.hid hx2
  clear hr hfb hq hx2
  by_cases hn0 : n2 = 0
  · have HE := Lib.hid (show fb = decide (0 < r) by
      have h9 := HF.out
      unfold fitsP at h9
      rw [if_pos (List.eq_nil_of_length_eq_zero (by have := HX2.out; omega)), HR.out] at h9
      exact h9.symm)
    subst hn0
    go_enter Tryz.func188, Tryz.ntmps188
    go_wp2_with (first | (go_at_call 187; refine (HRM.out 0).mono ?_; rintro e w1 ⟨rfl, rfl⟩))
    go_ret
    exact ⟨by rw [HE.out]; rfl, 0, rfl⟩
  · have HE := Lib.hid (show fb = decide (s = q.length ∧ 3 - min s 1 ≤ r) by
      have h9 := HF.out
      unfold fitsP at h9
      rw [if_neg (fun e => by rw [e] at HX2; exact hn0 HX2.out), HR.out] at h9
      exact h9.symm)
    have hn1 : ¬ ((n2 : Int) = 0) := by omega
    by_cases hsq : s = (nq : Int)
    · subst hsq
      obtain ⟨mn, hmn⟩ : ∃ mn, min (nq : Int) 1 = mn := ⟨_, rfl⟩
      have hm : 0 ≤ mn ∧ mn ≤ 1 := by omega
      obtain ⟨hm1, hm2⟩ := hm
      have hw3 : IntKind.i64.wrap (3 - mn) = 3 - mn := IntWalk.i64_in _ (by omega)
      have HE2 := Lib.hid (show fb = decide (3 - mn ≤ r) by
        rw [HE.out, hmn]
        exact decide_eq_decide.2 ⟨fun h => h.2, fun h => ⟨by rw [HQ.out], h⟩⟩)
      go_enter Tryz.func188, Tryz.ntmps188
      go_wp2_with fail
      go_quiet (first | (go_at_call 187; refine Calls.quiet_of_same (HRM.out _)))
      go_wp2_with fail
      go_ret
      exact ⟨by rw [HE2.out]; rfl, _, rfl⟩
    · have HE2 := Lib.hid (show fb = false by
        rw [HE.out]
        exact decide_eq_false fun h => hsq (by rw [h.1, HQ.out]))
      have hsq2 : (s == (nq : Int)) = false := by rw [beq_eq_false_iff_ne]; exact hsq
      go_enter Tryz.func188, Tryz.ntmps188
      go_wp2_with fail
      go_quiet (first | (go_at_call 187; refine Calls.quiet_of_same (HRM.out _)))
      go_wp2_with fail
      go_ret
      exact ⟨by rw [HE2.out]; rfl, _, rfl⟩
end
end Go.Proofs.YtdbnddmncbjobaaGreatDoor