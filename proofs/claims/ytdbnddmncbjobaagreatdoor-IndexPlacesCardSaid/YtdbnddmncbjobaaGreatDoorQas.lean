/- book.text: walked. -/
import Derived.Test.YtdbnddmncbjobaaGreatDoorQar
import Derived.Deep.Slices
import Derived.ChangeArms
import Derived.OpenShut
import Derived.ChangeOld
namespace Go.Proofs.YtdbnddmncbjobaaGreatDoor
section
open Go Go.RowKit

/-- A text in the value: its parts in rows among blocks of P. -/
def TxV (W : World) (P : Nat → Prop) (t : Tx) (v : Value) : Prop := ∃ A n c A' n' c', v = .agg #[.slice A n c, .slice A' n' c'] ∧ n ≤ c ∧ n' ≤ c' ∧ kWs.row W P A n t.paras ∧ kWs.row W P A' n' t.notes
set_option maxHeartbeats 4000000 in
set_option maxRecDepth 100000 in
set_option pp.deepTerms true in
set_option pp.maxSteps 1000000 in
theorem text_any (P : Nat → Prop) (w : World) (t : Tx) (A A' : Option Addr) (n n' c c' : Nat) (h1 : kWs.row w P A n t.paras) (h2 : kWs.row w P A' n' t.notes) (hn : n ≤ 1000000) (hn' : n' ≤ 1000000) (hp : ∀ p ∈ t.paras ++ t.notes, p.length ≤ 1000000) :
    Calls Tryz.prog 84 #[.agg #[.slice A n c, .slice A' n' c']] w (fun e w' => ∃ v, e = .returned v ∧ TxV w' (fun j => w.heap.size ≤ j) t v ∧ Ext w w') := by
  obtain ⟨b1, hb1⟩ : ∃ b1, w.heap.size = b1 := ⟨_, rfl⟩
  have HP1 := Lib.hid (fun X (hX : Ext w X) => parts_any P X A n c t.paras (Lay.row_ext h1 hX) hn fun p hp1 => hp p (List.mem_append_left _ hp1))
  have HP2 := Lib.hid (fun X (hX : Ext w X) => parts_any P X A' n' c' t.notes (Lay.row_ext h2 hX) hn' fun p hp1 => hp p (List.mem_append_right _ hp1))
  clear h1 h2 hp
  go_enter Tryz.func84, Tryz.ntmps84
  go_upto_region 1 with (fail)
  obtain ⟨W1, hW1⟩ : ∃ W1, (w.alloc (.cells #[.slice A n c, .slice A' n' c'] 53)).alloc (.cells #[.slice none 0 0, .slice none 0 0] 53) = W1 := ⟨_, rfl⟩
  rw [hW1]
  have hX0 : Ext w W1 := by rw [← hW1]; exact ((Ext.refl w).alloc _).alloc _
  have hB1 : W1.heap[b1]? = some (.cells #[.slice A n c, .slice A' n' c'] 53 (0, 0)) := by
    rw [← hW1, ← hb1]
    exact (Below.heap_alloc _ _ _ (by simp)).trans (heap_alloc_new w _)
  have hB2 : W1.heap[b1 + 1]? = some (.cells #[.slice none 0 0, .slice none 0 0] 53 (0, 0)) := by
    rw [← hW1, ← hb1]
    have := heap_alloc_new (w.alloc (.cells #[.slice A n c, .slice A' n' c'] 53)) (.cells #[.slice none 0 0, .slice none 0 0] 53)
    rwa [World.size_alloc] at this
  have hb1' : w.heap.size = b1 := hb1
  have HX0 := Lib.hid hX0
  have HB1 := Lib.hid hB1
  have HB2 := Lib.hid hB2
  have HBE := Lib.hid hb1
  have l1 := lt_of_block hB1
  have l2 := lt_of_block hB2
  have HQ := Lib.hid (fun X (hX : Ext W1 X) => (show X.cell? ⟨b1, 0, none⟩ = some (.slice A n c) ∧ X.cell? ⟨b1, 1, none⟩ = some (.slice A' n' c') from ⟨cell_of ((hX.block _ l1).trans hB1) rfl, cell_of ((hX.block _ l1).trans hB1) rfl⟩))
  have HQ2 := Lib.hid (fun X (hX : Ext W1 X) u u2 => (show ((X.setCell ⟨b1 + 1, 0, none⟩ u).setCell ⟨b1 + 1, 1, none⟩ u2).cell? ⟨b1, 0, none⟩ = some (.slice A n c) ∧ ((X.setCell ⟨b1 + 1, 0, none⟩ u).setCell ⟨b1 + 1, 1, none⟩ u2).cell? ⟨b1, 1, none⟩ = some (.slice A' n' c') from
    ⟨(World.cell?_setCell_other _ _ _ _ (by intro e; injection e with e; omega)).trans ((World.cell?_setCell_other _ _ _ _ (by intro e; injection e with e; omega)).trans (HQ.out X hX).1), (World.cell?_setCell_other _ _ _ _ (by intro e; injection e with e; omega)).trans ((World.cell?_setCell_other _ _ _ _ (by intro e; injection e with e; omega)).trans (HQ.out X hX).2)⟩))
  have HFZ := Lib.hid (fun X (hX : Ext W1 X) => (show X.cell? ⟨b1 + 1, 0, none⟩ = some (.slice none 0 0) ∧ X.cell? ⟨b1 + 1, 1, none⟩ = some (.slice none 0 0) ∧ X.frozen? ⟨b1 + 1, 0, none⟩ = false ∧ X.frozen? ⟨b1 + 1, 1, none⟩ = false from
    ⟨cell_of ((hX.block _ l2).trans hB2) rfl, cell_of ((hX.block _ l2).trans hB2) rfl, frozen_of ((hX.block _ l2).trans hB2) 0, frozen_of ((hX.block _ l2).trans hB2) 1⟩))
  have hcur : Ext W1 W1.drew := (Ext.refl _).drew
  clear hX0 hB1 hB2 hb1 hb1' hW1
  go_region_held3 (fun W => W.cell? ⟨b1, 0, none⟩ = some (.slice A n c) ∧ W.cell? ⟨b1, 1, none⟩ = some (.slice A' n' c')) (first | exact HQ.out _ hcur | exact HQ2.out _ hcur _ _) (first
    | (go_at_call_of 132 (Value.slice A n c); refine (HP1.out _ (HX0.out.trans hcur)).mono ?_; rintro e wG ⟨AG, cG, rfl, hG, hoG, hxG⟩; have hcur := hcur.trans hxG; obtain ⟨f0, f1, f2, f3⟩ := HFZ.out _ hcur; have HOG := Lib.hid hoG; have HXG := Lib.hid hxG; clear hoG hxG)
    | (go_at_call_of 132 (Value.slice A' n' c'); refine (HP2.out _ (HX0.out.trans hcur)).mono ?_; rintro e wN ⟨AN, cN, rfl, hN, hoN, hxN⟩; have hcur := hcur.trans hxN; obtain ⟨f0, f1, f2, f3⟩ := HFZ.out _ hcur; have HON := Lib.hid hoN; have HXN := Lib.hid hxN; clear hoN hxN))
  have HEND := Lib.hid (fun X (hX : Ext W1 X) (AG AN : Option Addr) (cG cN : Nat) (hG : n ≤ cG) (hN : n' ≤ cN) (r1 : kWs.own 54 X W1.heap.size (fun j => W1.heap.size ≤ j) (.slice AG n cG) t.paras) (r2 : kWs.own 54 X W1.heap.size (fun j => W1.heap.size ≤ j) (.slice AN n' cN) t.notes) =>
    (show ((X.setCell ⟨b1 + 1, 0, none⟩ (.slice AG n cG)).setCell ⟨b1 + 1, 1, none⟩ (.slice AN n' cN)).heap[b1 + 1]? = some (.cells #[.slice AG n cG, .slice AN n' cN] 53 (0, 0)) ∧ TxV ((X.setCell ⟨b1 + 1, 0, none⟩ (.slice AG n cG)).setCell ⟨b1 + 1, 1, none⟩ (.slice AN n' cN)) (fun j => w.heap.size ≤ j) t (.agg #[.slice AG n cG, .slice AN n' cN]) ∧ Ext w ((X.setCell ⟨b1 + 1, 0, none⟩ (.slice AG n cG)).setCell ⟨b1 + 1, 1, none⟩ (.slice AN n' cN)) by
      have hb : w.heap.size = b1 := HBE.out
      have hrow2 : ∀ {A : Option Addr} {n3 c : Nat} {xs : List (List Wd)}, kWs.own 54 X W1.heap.size (fun j => W1.heap.size ≤ j) (.slice A n3 c) xs → kWs.row ((X.setCell ⟨b1 + 1, 0, none⟩ (.slice AG n cG)).setCell ⟨b1 + 1, 1, none⟩ (.slice AN n' cN)) (fun j => w.heap.size ≤ j) A n3 xs := fun {A n3 c xs} h => by
        obtain ⟨A9, c9, e9, _, h9⟩ := own_rowN (Q := fun j => b1 + 1 < j) h (fun j hj _ => by omega) (fun j hj _ => by omega)
        have e1 : A = A9 := by injection e9
        have e2 : n3 = xs.length := by injection e9
        rw [e1, e2]
        exact Lay.row_mono (Lay.row_keep h9 (by simp) fun j hj _ => (heap_setCell_other _ ⟨b1 + 1, 1, none⟩ j _ (by show j ≠ b1 + 1; omega)).trans (heap_setCell_other _ ⟨b1 + 1, 0, none⟩ j _ (by show j ≠ b1 + 1; omega))) fun j hj _ => by omega
      refine ⟨?_, ⟨AG, n, cG, AN, n', cN, rfl, hG, hN, hrow2 r1, hrow2 r2⟩, ((HX0.out.trans hX).setCell (p := ⟨b1 + 1, 0, none⟩) (by show w.heap.size ≤ b1 + 1; omega) _).setCell (p := ⟨b1 + 1, 1, none⟩) (by show w.heap.size ≤ b1 + 1; omega) _⟩
      rw [heap_setCell_same _ (b1 + 1) 1 _ 53 _ (heap_setCell_same X (b1 + 1) 0 _ 53 _ ((hX.block _ l2).trans HB2.out))]
      rfl))
  all_goals
    go_wp2_with fail
    obtain ⟨z, hT, hE⟩ := HEND.out _ hcur AG AN cG cN hG hN (by first | exact Lay.own_ext HOG.out HXN.out | exact own_low HOG.out HXN.out.lt) (by first | exact own_low HON.out HXG.out.lt | exact Lay.own_ext HON.out HXG.out)
    have z0 := cell_of z (i := 0) rfl
    have z1 := cell_of z (i := 1) rfl
    refine bodyPost_ret (v := .agg #[.slice AG n cG, .slice AN n' cN]) (by simp [results, Tryz.results84, go_sem, *]) rfl ?_
    exact ⟨_, rfl, hT, hE⟩
end
section
open Go Go.RowKit

def wCs (v : Wd) : Cs kWd.sz := ⟨wcf v, rfl, wcf_one v⟩
theorem map_at {α γ : Type} {f : α → γ} {l : List α} {i : Nat} {y : γ} (h : (l.map f)[i]? = some y) : ∃ x, l[i]? = some x ∧ y = f x := by
  rw [List.getElem?_map] at h
  obtain ⟨x, hx, rfl⟩ := Option.map_eq_some_iff.1 h
  exact ⟨x, hx, rfl⟩
theorem WRow.lay {W : World} {g : Nat} {l : List Wd} (h : WRow W g l) (P : Nat → Prop) (hP : P g) : kWd.row W P (some ⟨g, 0, none⟩) l.length l := by
  refine ⟨l.map wCs, rfl, by simp, ⟨by simp, fun _ => ⟨g, 0, rfl, h.lt, fun i d hd j u hu => ?_⟩⟩, fun x hx => ?_, fun i d x hd hx => ?_⟩
  · obtain ⟨v, hv, rfl⟩ := map_at hd
    rw [Nat.zero_add]
    exact h.cell hv hu
  · injection hx with hx; subst hx; exact ⟨hP, h.lt⟩
  · obtain ⟨v, hv, rfl⟩ := map_at hd
    obtain rfl : v = x := Option.some.inj (hv.symm.trans hx)
    exact kWd_rep.2 rfl
def pCs (p : Pq) : Cs kWs.sz := ⟨[p.sl.val], rfl, fun u hu => by simp only [List.mem_singleton] at hu; subst hu; rfl⟩
theorem TR.lay {W : World} {B : Nat} {A : Option Addr} {c : Nat} {pg : List Pq} (h : TR W B (.slice A pg.length c) pg) : pg.length ≤ c ∧ kWs.row W (fun j => B ≤ j) A pg.length (pg.map Pq.l) := by
  obtain ⟨A', c', e, hc, hs⟩ := OL.form slc_len h.1
  rw [List.length_map] at e hc
  obtain ⟨e1, _, e3⟩ := Value.slice.inj e
  subst e1 e3
  refine ⟨hc, pg.map pCs, by simp, by simp, ⟨by simp, fun h0 => ?_⟩, fun x hx => ?_, fun i d x hd hx => ?_⟩
  · obtain ⟨b, off, e, hb, hcl⟩ := hs.2 (by rw [List.length_map]; exact h0)
    refine ⟨b, off, e, hb, fun i d hd j u hu => ?_⟩
    obtain ⟨p, hp, rfl⟩ := map_at hd
    exact hcl i p.sl (by rw [List.getElem?_map, hp]; rfl) j u hu
  · exact OL.lts h.1 x.block (by rw [hx]; rfl)
  · obtain ⟨p, hp, rfl⟩ := map_at hd
    obtain ⟨q, hq, rfl⟩ := map_at hx
    obtain rfl : p = q := Option.some.inj (hp.symm.trans hq)
    obtain ⟨h1, h2, _, _, h5, _⟩ := h.2 p (List.mem_of_getElem? hp)
    exact kWs_rep.2 ⟨_, p.c, rfl, h5, h1.lay _ h2⟩
/-- A generated text in blocks from base on. -/
def GT (base : Nat) (t : Tx) (v : Value) (W : World) : Prop := ∃ A1 n1 c1 A2 n2 c2, v = .agg #[.slice A1 n1 c1, .slice A2 n2 c2] ∧ n1 ≤ c1 ∧ n2 ≤ c2 ∧ kWs.row W (fun j => base ≤ j) A1 n1 t.paras ∧ kWs.row W (fun j => base ≤ j) A2 n2 t.notes
def I64s (l : List Int) : Prop := ∀ n ∈ l, -9223372036854775808 ≤ n ∧ n ≤ 9223372036854775807
theorem gtext_lay (A : Option Addr) (c : Nat) (l : List Int) (w : World) (hb : I64s l) (h : SL icf 1 w A l.length l) :
    Calls Tryz.prog 36 #[.slice A l.length c] w (fun e w' => ∃ t v, e = .returned v ∧ OkT t ∧ GT w.heap.size t v w' ∧ Ext w w') := by
  refine (gtext_any A c l w hb h).mono ?_
  rintro e w' ⟨A1, c1, pg, A2, c2, pn, rfl, hok, hx, he⟩
  obtain ⟨k1, r1⟩ := hx.1.lay
  obtain ⟨k2, r2⟩ := hx.2.1.lay
  exact ⟨_, _, rfl, hok, ⟨A1, _, c1, A2, _, c2, rfl, k1, k2, r1, r2⟩, he⟩
theorem slice_lo22 (b o n c l : Nat) (hl : l ≤ n) (hn : n ≤ c) (W : World) : (Instr.sliceAt 22 (.slice (some ⟨b, o, none⟩) n c) (some (.int .i64 (l : Int))) none none).run Tryz.prog W = .ok (.slice (some ⟨b, if c = l then o else o + l, none⟩) (n - l) (c - l)) W := by
  have h1 : (l : Int) ≤ (n : Int) := by omega
  have h2 : (l : Int) ≤ (c : Int) := by omega
  by_cases h : c = l
  · subst h
    have : n = c := by omega
    subst this
    go_simp
  · rw [if_neg h]
    have h3 : ¬ l = c := fun e => h e.symm
    go_simp
theorem slice_lo22_nil (W : World) : (Instr.sliceAt 22 (.slice none 0 0) (some (.int .i64 0)) none none).run Tryz.prog W = .ok (.slice none 0 0) W := by
  go_simp
theorem slice_lo22_zero (a : Addr) (c : Nat) (W : World) : (Instr.sliceAt 22 (.slice (some a) 0 c) (some (.int .i64 0)) none none).run Tryz.prog W = .ok (.slice (some a) 0 c) W := by
  by_cases h : c = 0
  · subst h; go_simp
  · have h2 : (0 : Int) ≤ (c : Int) := by omega
    go_simp
    try simp [Addr.add]
/-- A list of numbers in memory, whose rest can be cut off. -/
structure IL (w : World) (A : Option Addr) (c : Nat) (l : List Int) : Prop where
  sl : SL icf 1 w A l.length l
  le : l.length ≤ c
  nl : A = none → c = 0
  ok : I64s l
theorem IL.ext {w w' : World} {A : Option Addr} {c : Nat} {l : List Int} (h : IL w A c l) (hx : Ext w w') : IL w' A c l := ⟨h.sl.ext hx, h.le, h.nl, h.ok⟩
theorem IL.cut {w : World} {A : Option Addr} {c : Nat} {l : List Int} (h : IL w A c l) (k : Nat) (hk : k ≤ l.length) : ∃ A' c', SL icf 1 w A' (l.drop k).length (l.drop k) ∧
    ∀ W, (Instr.sliceAt 22 (.slice A l.length c) (some (.int .i64 (k : Int))) none none).run Tryz.prog W = .ok (.slice A' (l.drop k).length c') W := by
  rcases Nat.eq_zero_or_pos l.length with h0 | h0
  · obtain rfl : k = 0 := by omega
    obtain rfl : l = [] := List.eq_nil_of_length_eq_zero h0
    cases A with
    | none => obtain rfl := h.nl rfl; exact ⟨none, 0, SL.nil _, slice_lo22_nil⟩
    | some a => exact ⟨some a, c, ⟨rfl, fun h => absurd h (Nat.lt_irrefl _)⟩, slice_lo22_zero a c⟩
  · obtain ⟨b, off, rfl, hb, hc⟩ := h.sl.2 h0
    refine ⟨some ⟨b, if c = k then off else off + k, none⟩, c - k, ⟨rfl, fun h1 => ⟨b, _, rfl, hb, fun i a ha j u hu => ?_⟩⟩, fun W => by rw [List.length_drop]; exact slice_lo22 b off l.length c k hk h.le W⟩
    rw [List.length_drop] at h1
    rw [List.getElem?_drop] at ha
    rw [if_neg (by have := h.le; omega), Nat.mul_one]
    have := hc (k + i) a ha j u hu
    rwa [Nat.mul_one, ← Nat.add_assoc] at this
theorem I64s.drop {l : List Int} (h : I64s l) (k : Nat) : I64s (l.drop k) := fun n hn => h n (List.mem_of_mem_drop hn)
def TextGet (w : World) (e : Ending) (w' : World) : Prop := ∃ t v, e = .returned v ∧ OkT t ∧ GT w.heap.size t v w' ∧ Ext w w'
theorem GT.ext {base : Nat} {t : Tx} {v : Value} {W W' : World} (h : GT base t v W) (hx : Ext W W') : GT base t v W' := by
  obtain ⟨A1, n1, c1, A2, n2, c2, rfl, h1, h2, h3, h4⟩ := h
  exact ⟨A1, n1, c1, A2, n2, c2, rfl, h1, h2, Lay.row_ext h3 hx, Lay.row_ext h4 hx⟩
theorem GT.keep {base : Nat} {t : Tx} {v : Value} {W W' : World} (h : GT base t v W) (hs : W.heap.size ≤ W'.heap.size) (hk : ∀ j, base ≤ j → j < W.heap.size → W'.heap[j]? = W.heap[j]?) : GT base t v W' := by
  obtain ⟨A1, n1, c1, A2, n2, c2, rfl, h1, h2, h3, h4⟩ := h
  exact ⟨A1, n1, c1, A2, n2, c2, rfl, h1, h2, Lay.row_keep h3 hs hk, Lay.row_keep h4 hs hk⟩
theorem GT.low {base base' : Nat} {t : Tx} {v : Value} {W : World} (h : GT base t v W) (hb : base' ≤ base) : GT base' t v W := by
  obtain ⟨A1, n1, c1, A2, n2, c2, rfl, h1, h2, h3, h4⟩ := h
  exact ⟨A1, n1, c1, A2, n2, c2, rfl, h1, h2, Lay.row_mono h3 fun j hj _ => Nat.le_trans hb hj, Lay.row_mono h4 fun j hj _ => Nat.le_trans hb hj⟩
set_option maxHeartbeats 4000000 in
set_option maxRecDepth 100000 in
theorem gtextat_any (A : Option Addr) (c : Nat) (l : List Int) (k : Nat) (w : World) (h : IL w A c l) (_hl : l.length ≤ 9223372036854775807) (_hk : k ≤ 1000000) :
    Calls Tryz.prog 87 #[.slice A l.length c, .int .i64 (k : Int)] w (TextGet w) := by
  obtain ⟨m, hm⟩ : ∃ m, min k l.length = m := ⟨_, rfl⟩
  have hml : m ≤ l.length := by omega
  obtain ⟨A', c', hs, hrun⟩ := h.cut m hml
  have HT := Lib.hid (fun X (hX : Ext w X) => gtext_lay A' c' (l.drop m) X (h.ok.drop m) (hs.ext hX))
  obtain ⟨n, hn⟩ : ∃ n, (l.drop m).length = n := ⟨_, rfl⟩
  rw [hn] at hrun HT
  obtain ⟨N, hN⟩ : ∃ N, l.length = N := ⟨_, rfl⟩
  rw [hN] at hrun _hl hm hml ⊢
  have HM := Lib.hid hm
  clear h hs hn hN
  have e1 : min (k : Int) (N : Int) = (m : Int) := by omega
  go_enter Tryz.func87, Tryz.ntmps87
  have HT2 := Lib.hid (show Calls Tryz.prog 36 #[.slice A' n c'] (w.alloc (.cells #[.slice none 0 0, .slice none 0 0] 53)) (fun e w' => ∃ t A1 n1 c1 A2 n2 c2, e = .returned (.agg #[.slice A1 n1 c1, .slice A2 n2 c2]) ∧ OkT t ∧ GT (w.heap.size + 1) t (.agg #[.slice A1 n1 c1, .slice A2 n2 c2]) w' ∧ Ext w w' ∧ w'.heap[w.heap.size]? = some (.cells #[.slice none 0 0, .slice none 0 0] 53 (0, 0))) from by
    have hx0 : Ext w (w.alloc (.cells #[.slice none 0 0, .slice none 0 0] 53)) := (Ext.refl w).alloc _
    refine (HT.out _ hx0).mono ?_
    rintro e w' ⟨t, v, rfl, hok, hgt, hx⟩
    have hg2 := hgt
    rw [World.size_alloc] at hg2
    obtain ⟨A1, n1, c1, A2, n2, c2, rfl, h1, h2, h3, h4⟩ := hgt
    exact ⟨t, A1, n1, c1, A2, n2, c2, rfl, hok, hg2, hx0.trans hx, (hx.block _ (by simp)).trans (heap_alloc_new w _)⟩)
  clear HT
  go_wp2_with (first | (go_at_call 36; refine (HT2.out).mono ?_; rintro e w1 ⟨t, A1, n1, c1, A2, n2, c2, rfl, hok, hg, hx, hh⟩; have k0 := cell_of hh (i := 0) (u := .slice none 0 0) rfl; have k1 := cell_of hh (i := 1) (u := .slice none 0 0) rfl; have f0 := frozen_of hh 0; have f1 := frozen_of hh 1; have HG := Lib.hid hg; have HX := Lib.hid hx; have HH := Lib.hid hh; clear hg hx hh))
  refine bodyPost_ret (v := .agg #[.slice A1 n1 c1, .slice A2 n2 c2]) (by simp [results, Tryz.results87, go_sem, *]) rfl ?_
  refine ⟨t, _, rfl, hok, (HG.out.keep (by simp) fun j hj _ => ?_).low (by omega), (HX.out.setCell (p := ⟨w.heap.size, 0, none⟩) (Nat.le_refl _) _).setCell (p := ⟨w.heap.size, 1, none⟩) (Nat.le_refl _) _⟩
  rw [heap_setCell_other _ ⟨w.heap.size, 1, none⟩ j _ (by show j ≠ w.heap.size; omega), heap_setCell_other _ ⟨w.heap.size, 0, none⟩ j _ (by show j ≠ w.heap.size; omega)]
end
section
open Go Go.RowKit Go.WideShapes Go.ChangeShapes Go.Deep

theorem cellsI : Tryz.prog.cellsOf 3 = 1 := by kernel_rfl
theorem add_noneI (b off n : Nat) : (⟨b, off, none⟩ : Addr).add n = ⟨b, off + n, none⟩ := by
  by_cases h : n = 0
  · subst h; simp [Addr.add]
  · simp [Addr.add, h]
section
variable {H : Type} {enc : TypeId × Value → H} {w : World} {base : Nat} {spare : Nat → Bool} {held : Bool}
theorem open_intl {a0 : Option Addr} {len cap fuel : Nat} {x : DataW H × List MemPlace} (h : DataW.trod enc Tryz.prog w base spare held fuel 22 (Value.slice a0 len cap).cells.toList = some x) :
    ∃ l : List Int, len = l.length ∧ IL w a0 cap l ∧ l.length ≤ 9223372036854775807 := by
  suffices hh : ∃ l : List Int, len = l.length ∧ SL icf 1 w a0 len l ∧ I64s l ∧ l.length ≤ cap ∧ (a0 = none → cap = 0) ∧ l.length ≤ 9223372036854775807 by
    obtain ⟨l, rfl, h1, h2, h3, h4, h5⟩ := hh
    exact ⟨l, rfl, ⟨h1, h3, h4, h2⟩, h5⟩
  rcases open_slice Tryz.underlying22 h with ⟨hcs, _⟩ | ⟨a, len', cap', m, n, D, Pl, hcs, _, hl, hm, hmm, hx, hi⟩
  · simp [Value.cells] at hcs
    obtain ⟨rfl, rfl, rfl⟩ := hcs
    exact ⟨[], rfl, SL.nil _, fun n h => (by cases h), by simp, fun _ => rfl, by simp⟩
  · simp [Value.cells] at hcs
    obtain ⟨rfl, rfl, rfl⟩ := hcs
    have hlm : len ≤ m := by rw [hmm]; split <;> omega
    have hall : ∀ i : Nat, ∃ t : Int, i < len → (-9223372036854775808 ≤ t ∧ t ≤ 9223372036854775807) ∧ w.cell? (a.add i) = some (.int .i64 t) := fun i => by
      by_cases hil : i < len
      · obtain ⟨cs', h1, h2⟩ := hi i (by omega)
        rw [cellsI, Nat.mul_one] at h1
        obtain ⟨t, rfl, _, hw⟩ := DataW.trod_int Tryz.underlying3 h2
        obtain ⟨_, _, h3⟩ := World.cells?_some h1
        refine ⟨t, fun _ => ⟨bounds_i64 hw, ?_⟩⟩
        have := h3 0 (by omega)
        rw [Go.Deep.add_add, Nat.add_zero] at this
        rw [this]; rfl
      · exact ⟨0, fun h => absurd h hil⟩
    obtain ⟨F, hF⟩ := Classical.axiomOfChoice hall
    refine ⟨(List.range len).map F, by simp, ⟨by simp, fun h0 => ?_⟩, fun n hn => ?_, by simpa using hl, fun e => (by cases e), by have := hm; unfold maxLen at this; simp; omega⟩
    · obtain ⟨b, off, spot⟩ := a
      have hc := (hF 0 h0).2
      have hspot : spot = none := by simpa [Addr.add] using World.cell?_spot hc
      subst hspot
      have hb : b < w.heap.size := by
        have hc' : w.cell? ⟨b, off, none⟩ = some (.int .i64 (F 0)) := by rw [add_noneI] at hc; exact hc
        by_cases hb : b < w.heap.size
        · exact hb
        · exfalso
          unfold World.cell? at hc'
          rw [show w.heap[b]? = none from Array.getElem?_eq_none (by omega)] at hc'
          simp at hc'
      refine ⟨b, off, rfl, hb, fun i t hti j u hu => ?_⟩
      have hil : i < len := by
        have := (List.getElem?_eq_some_iff.1 hti).1
        simpa using this
      have ht : F i = t := by simpa [hil] using hti
      obtain rfl : j = 0 := by
        have := (List.getElem?_eq_some_iff.1 hu).1
        simpa [icf] using this
      obtain rfl : (.int .i64 t : Value) = u := Option.some.inj hu
      have := (hF i hil).2
      rw [add_noneI, ht] at this
      rw [Nat.mul_one, Nat.add_zero]; exact this
    · obtain ⟨i, hi2, rfl⟩ := List.mem_map.1 hn
      exact (hF i (by simpa using hi2)).1
end
end
section
open Go Go.RowKit Go.WideShapes Go.ChangeShapes

theorem fldK {fs : Array Field} {i t o : Nat} (h : (fs[i]?).map (fun f => (f.type, f.offset)) = some (t, o)) : ∃ f, fs[i]? = some f ∧ f.type = t ∧ f.offset = o := by
  obtain ⟨f, h1, h2⟩ := Option.map_eq_some_iff.1 h
  simp only [Prod.mk.injEq] at h2
  exact ⟨f, h1, h2.1, h2.2⟩
theorem cells3K : Tryz.prog.cellsOf 3 = 1 := by kernel_rfl
section
variable {H : Type} {enc : TypeId × Value → H} {w : World} {base : Nat} {spare : Nat → Bool} {held : Bool}
theorem open_fieldK {t : TypeId} {cs : List Value} {x : DataW H × List MemPlace} {fuel : Nat} {n : Nat} (hs : Tryz.prog.underlying t = some (.struct (Tryz.prog.fieldsOf t))) (hn : (Tryz.prog.fieldsOf t).size = n) (h : DataW.trod enc Tryz.prog w base spare held fuel t cs = some x) :
    cs.length = Tryz.prog.cellsOf t ∧ ∀ i ft o, i < n → ((Tryz.prog.fieldsOf t)[i]?).map (fun f => (f.type, f.offset)) = some (ft, o) → ∃ m y, DataW.trod enc Tryz.prog w base spare held m ft ((cs.drop o).take (Tryz.prog.cellsOf ft)) = some y := by
  obtain ⟨xs, m, _, _, hlen, hxl, hf⟩ := DataW.trod_struct hs h
  refine ⟨hlen, fun i ft o hi he => ?_⟩
  obtain ⟨f, h1, h2, h3⟩ := fldK he
  have h4 := hf i f h1
  rw [h2, h3] at h4
  exact ⟨m, _, h4.trans (List.getElem?_eq_getElem (by rw [hxl, hn]; exact hi))⟩
theorem int_ofK {m : Nat} {cs : List Value} {y : DataW H × List MemPlace} (h : DataW.trod enc Tryz.prog w base spare held m 3 cs = some y) : ∃ n : Int, cs = [.int .i64 n] ∧ -9223372036854775808 ≤ n ∧ n ≤ 9223372036854775807 := by
  obtain ⟨n, e, _, hw⟩ := DataW.trod_int Tryz.underlying3 h
  exact ⟨n, e, bounds_i64 hw⟩
end
end
section
open Go Go.RowKit Go.WideShapes Go.ChangeShapes Go.Deep

theorem cells22K : Tryz.prog.cellsOf 22 = 1 := by kernel_rfl
theorem cells24 : Tryz.prog.cellsOf 24 = 4 := by kernel_rfl
theorem size24 : (Tryz.prog.fieldsOf 24).size = 4 := by kernel_rfl
theorem str24 : Tryz.prog.underlying 24 = some (.struct (Tryz.prog.fieldsOf 24)) := by kernel_rfl
section
variable {H : Type} {enc : TypeId × Value → H} {w : World} {base : Nat} {spare : Nat → Bool} {held : Bool}
theorem sl_ofK {m : Nat} {u : Value} {y : DataW H × List MemPlace} (h : DataW.trod enc Tryz.prog w base spare held m 22 [u] = some y) : ∃ (A : Option Addr) (c : Nat) (l : List Int), u = .slice A l.length c ∧ IL w A c l ∧ l.length ≤ 9223372036854775807 := by
  have hu : ∃ A n c, u = .slice A n c := by
    rcases open_slice Tryz.underlying22 h with ⟨hcs, _⟩ | ⟨a, len', cap', m, n, D, Pl, hcs, _⟩
    · simp at hcs; exact ⟨_, _, _, hcs⟩
    · simp at hcs; exact ⟨_, _, _, hcs⟩
  obtain ⟨A, n, c, rfl⟩ := hu
  have h9 : DataW.trod enc Tryz.prog w base spare held m 22 (Value.slice A n c).cells.toList = some y := by simpa [Value.cells] using h
  obtain ⟨l, rfl, h1, h2⟩ := open_intl h9
  exact ⟨A, c, l, rfl, h1, h2⟩
set_option maxRecDepth 100000 in
theorem open_case {r : Reach} {b0 : Nat} {v : Value} {d : DataW H} {p : List MemPlace} (hv : Value.okWide Tryz.prog w r b0 24 v) (h : DataW.Trod enc Tryz.prog w base spare held 24 v d p) :
    ∃ (A A' : Option Addr) (c c' : Nat) (l l' : List Int) (br tb : Int), v = .agg #[.slice A l.length c, .slice A' l'.length c', .int .i64 br, .int .i64 tb] ∧ IL w A c l ∧ l.length ≤ 9223372036854775807 ∧ IL w A' c' l' ∧ l'.length ≤ 9223372036854775807 ∧ (-9223372036854775808 ≤ br ∧ br ≤ 9223372036854775807) ∧ (-9223372036854775808 ≤ tb ∧ tb ≤ 9223372036854775807) := by
  obtain ⟨cs, rfl, hsz⟩ := okWide_struct str24 hv
  obtain ⟨fuel, hf⟩ := h
  have hc : (Value.agg cs).cells.toList = cs.toList := by simp [Value.cells]
  rw [hc] at hf
  obtain ⟨hl, hff⟩ := open_fieldK str24 size24 hf
  rw [cells24] at hl
  obtain ⟨l⟩ := cs
  match l, hl with
  | [c0, c1, c2, c3], _ =>
    obtain ⟨_, _, g0⟩ := hff 0 22 0 (by omega) (by kernel_rfl)
    obtain ⟨_, _, g1⟩ := hff 1 22 1 (by omega) (by kernel_rfl)
    obtain ⟨_, _, g2⟩ := hff 2 3 2 (by omega) (by kernel_rfl)
    obtain ⟨_, _, g3⟩ := hff 3 3 3 (by omega) (by kernel_rfl)
    rw [cells22K] at g0 g1
    rw [cells3K] at g2 g3
    obtain ⟨A, c, l1, e0, i1, j1⟩ := sl_ofK (u := c0) g0
    obtain ⟨A', c', l2, e1, i2, j2⟩ := sl_ofK (u := c1) g1
    obtain ⟨n2, e2, b2⟩ := int_ofK g2
    obtain ⟨n3, e3, b3⟩ := int_ofK g3
    simp at e2 e3
    subst e0 e1 e2 e3
    exact ⟨A, A', c, c', l1, l2, n2, n3, rfl, i1, j1, i2, j2, b2, b3⟩
end
end
end Go.Proofs.YtdbnddmncbjobaaGreatDoor