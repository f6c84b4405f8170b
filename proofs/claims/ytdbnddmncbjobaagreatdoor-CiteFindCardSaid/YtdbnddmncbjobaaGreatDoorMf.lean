/- The generated text in the ways of this book; rollbookref28.text: walked. -/
import Derived.Test.YtdbnddmncbjobaaGreatDoorMc
import Derived.Test.YtdbnddmncbjobaaGreatDoorMe
import Derived.Test.YtdbnddmncbjobaaGreatDoorLaid
import Derived.Deep.Slices
import Derived.ChangeArms
import Derived.OpenShut
namespace Go.Proofs.YtdbnddmncbjobaaGreatDoor
open Go Go.RowKit

def wCs (v : Wd) : Cs kWd.sz := ⟨wcf v, rfl, wcf_one v⟩
theorem map_at {α γ : Type} {f : α → γ} {l : List α} {i : Nat} {y : γ} (h : (l.map f)[i]? = some y) : ∃ x, l[i]? = some x ∧ y = f x := by
  rw [List.getElem?_map] at h
  obtain ⟨x, hx, rfl⟩ := Option.map_eq_some_iff.1 h
  exact ⟨x, hx, rfl⟩
theorem WRow.lay {W : World} {g : Nat} {l : List Wd} (h : WRow W g l) (P : Nat → Prop) (hP : P g) : kWd.row W P (some ⟨g, 0, none⟩) l.length l := by
  refine ⟨l.map wCs, rfl, by simp, ⟨by simp, fun _ => ⟨g, 0, rfl, h.lt, fun i d hd j u hu => ?_⟩⟩, fun x hx => ?_, fun i d x hd hx => ?_⟩
  · obtain ⟨v, hv, rfl⟩ := map_at hd
    rw [Nat.zero_add]
    exact h.cell hv hu
  · injection hx with hx; subst hx; exact ⟨hP, h.lt⟩
  · obtain ⟨v, hv, rfl⟩ := map_at hd
    obtain rfl : v = x := Option.some.inj (hv.symm.trans hx)
    exact kWd_rep.2 rfl
def pCs (p : Pq) : Cs kWs.sz := ⟨[p.sl.val], rfl, fun u hu => by simp only [List.mem_singleton] at hu; subst hu; rfl⟩
theorem TR.lay {W : World} {B : Nat} {A : Option Addr} {c : Nat} {pg : List Pq} (h : TR W B (.slice A pg.length c) pg) : pg.length ≤ c ∧ kWs.row W (fun j => B ≤ j) A pg.length (pg.map Pq.l) := by
  obtain ⟨A', c', e, hc, hs⟩ := OL.form slc_len h.1
  rw [List.length_map] at e hc
  obtain ⟨e1, _, e3⟩ := Value.slice.inj e
  subst e1 e3
  refine ⟨hc, pg.map pCs, by simp, by simp, ⟨by simp, fun h0 => ?_⟩, fun x hx => ?_, fun i d x hd hx => ?_⟩
  · obtain ⟨b, off, e, hb, hcl⟩ := hs.2 (by rw [List.length_map]; exact h0)
    refine ⟨b, off, e, hb, fun i d hd j u hu => ?_⟩
    obtain ⟨p, hp, rfl⟩ := map_at hd
    exact hcl i p.sl (by rw [List.getElem?_map, hp]; rfl) j u hu
  · exact OL.lts h.1 x.block (by rw [hx]; rfl)
  · obtain ⟨p, hp, rfl⟩ := map_at hd
    obtain ⟨q, hq, rfl⟩ := map_at hx
    obtain rfl : p = q := Option.some.inj (hp.symm.trans hq)
    obtain ⟨h1, h2, _, _, h5, _⟩ := h.2 p (List.mem_of_getElem? hp)
    exact kWs_rep.2 ⟨_, p.c, rfl, h5, h1.lay _ h2⟩
/-- A generated text in blocks from base on. -/
def GT (base : Nat) (t : Tx) (v : Value) (W : World) : Prop := ∃ A1 n1 c1 A2 n2 c2, v = .agg #[.slice A1 n1 c1, .slice A2 n2 c2] ∧ n1 ≤ c1 ∧ n2 ≤ c2 ∧ kWs.row W (fun j => base ≤ j) A1 n1 t.paras ∧ kWs.row W (fun j => base ≤ j) A2 n2 t.notes
def I64s (l : List Int) : Prop := ∀ n ∈ l, -9223372036854775808 ≤ n ∧ n ≤ 9223372036854775807
theorem gtext_lay (A : Option Addr) (c : Nat) (l : List Int) (w : World) (hb : I64s l) (h : SL icf 1 w A l.length l) :
    Calls Tryz.prog 36 #[.slice A l.length c] w (fun e w' => ∃ t v, e = .returned v ∧ OkT t ∧ GT w.heap.size t v w' ∧ Ext w w') := by
  refine (gtext_any A c l w hb h).mono ?_
  rintro e w' ⟨A1, c1, pg, A2, c2, pn, rfl, hok, hx, he⟩
  obtain ⟨k1, r1⟩ := hx.1.lay
  obtain ⟨k2, r2⟩ := hx.2.1.lay
  exact ⟨_, _, rfl, hok, ⟨A1, _, c1, A2, _, c2, rfl, k1, k2, r1, r2⟩, he⟩
theorem slice_lo22 (b o n c l : Nat) (hl : l ≤ n) (hn : n ≤ c) (W : World) : (Instr.sliceAt 22 (.slice (some ⟨b, o, none⟩) n c) (some (.int .i64 (l : Int))) none none).run Tryz.prog W = .ok (.slice (some ⟨b, if c = l then o else o + l, none⟩) (n - l) (c - l)) W := by
  have h1 : (l : Int) ≤ (n : Int) := by omega
  have h2 : (l : Int) ≤ (c : Int) := by omega
  by_cases h : c = l
  · subst h
    have : n = c := by omega
    subst this
    go_simp
  · rw [if_neg h]
    have h3 : ¬ l = c := fun e => h e.symm
    go_simp
theorem slice_lo22_nil (W : World) : (Instr.sliceAt 22 (.slice none 0 0) (some (.int .i64 0)) none none).run Tryz.prog W = .ok (.slice none 0 0) W := by
  go_simp
theorem slice_lo22_zero (a : Addr) (c : Nat) (W : World) : (Instr.sliceAt 22 (.slice (some a) 0 c) (some (.int .i64 0)) none none).run Tryz.prog W = .ok (.slice (some a) 0 c) W := by
  by_cases h : c = 0
  · subst h; go_simp
  · have h2 : (0 : Int) ≤ (c : Int) := by omega
    go_simp
    try simp [Addr.add]
/-- A list of numbers in memory, whose rest can be cut off. -/
structure IL (w : World) (A : Option Addr) (c : Nat) (l : List Int) : Prop where
  sl : SL icf 1 w A l.length l
  le : l.length ≤ c
  nl : A = none → c = 0
  ok : I64s l
theorem IL.ext {w w' : World} {A : Option Addr} {c : Nat} {l : List Int} (h : IL w A c l) (hx : Ext w w') : IL w' A c l := ⟨h.sl.ext hx, h.le, h.nl, h.ok⟩
theorem IL.cut {w : World} {A : Option Addr} {c : Nat} {l : List Int} (h : IL w A c l) (k : Nat) (hk : k ≤ l.length) : ∃ A' c', SL icf 1 w A' (l.drop k).length (l.drop k) ∧
    ∀ W, (Instr.sliceAt 22 (.slice A l.length c) (some (.int .i64 (k : Int))) none none).run Tryz.prog W = .ok (.slice A' (l.drop k).length c') W := by
  rcases Nat.eq_zero_or_pos l.length with h0 | h0
  · obtain rfl : k = 0 := by omega
    obtain rfl : l = [] := List.eq_nil_of_length_eq_zero h0
    cases A with
    | none => obtain rfl := h.nl rfl; exact ⟨none, 0, SL.nil _, slice_lo22_nil⟩
    | some a => exact ⟨some a, c, ⟨rfl, fun h => absurd h (Nat.lt_irrefl _)⟩, slice_lo22_zero a c⟩
  · obtain ⟨b, off, rfl, hb, hc⟩ := h.sl.2 h0
    refine ⟨some ⟨b, if c = k then off else off + k, none⟩, c - k, ⟨rfl, fun h1 => ⟨b, _, rfl, hb, fun i a ha j u hu => ?_⟩⟩, fun W => by rw [List.length_drop]; exact slice_lo22 b off l.length c k hk h.le W⟩
    rw [List.length_drop] at h1
    rw [List.getElem?_drop] at ha
    rw [if_neg (by have := h.le; omega), Nat.mul_one]
    have := hc (k + i) a ha j u hu
    rwa [Nat.mul_one, ← Nat.add_assoc] at this
theorem I64s.drop {l : List Int} (h : I64s l) (k : Nat) : I64s (l.drop k) := fun n hn => h n (List.mem_of_mem_drop hn)
def TextGet (w : World) (e : Ending) (w' : World) : Prop := ∃ t v, e = .returned v ∧ OkT t ∧ GT w.heap.size t v w' ∧ Ext w w'
theorem GT.ext {base : Nat} {t : Tx} {v : Value} {W W' : World} (h : GT base t v W) (hx : Ext W W') : GT base t v W' := by
  obtain ⟨A1, n1, c1, A2, n2, c2, rfl, h1, h2, h3, h4⟩ := h
  exact ⟨A1, n1, c1, A2, n2, c2, rfl, h1, h2, Lay.row_ext h3 hx, Lay.row_ext h4 hx⟩
theorem GT.keep {base : Nat} {t : Tx} {v : Value} {W W' : World} (h : GT base t v W) (hs : W.heap.size ≤ W'.heap.size) (hk : ∀ j, base ≤ j → j < W.heap.size → W'.heap[j]? = W.heap[j]?) : GT base t v W' := by
  obtain ⟨A1, n1, c1, A2, n2, c2, rfl, h1, h2, h3, h4⟩ := h
  exact ⟨A1, n1, c1, A2, n2, c2, rfl, h1, h2, Lay.row_keep h3 hs hk, Lay.row_keep h4 hs hk⟩
theorem GT.low {base base' : Nat} {t : Tx} {v : Value} {W : World} (h : GT base t v W) (hb : base' ≤ base) : GT base' t v W := by
  obtain ⟨A1, n1, c1, A2, n2, c2, rfl, h1, h2, h3, h4⟩ := h
  exact ⟨A1, n1, c1, A2, n2, c2, rfl, h1, h2, Lay.row_mono h3 fun j hj _ => Nat.le_trans hb hj, Lay.row_mono h4 fun j hj _ => Nat.le_trans hb hj⟩
set_option maxHeartbeats 4000000 in
set_option maxRecDepth 100000 in
theorem gtextat_any (A : Option Addr) (c : Nat) (l : List Int) (k : Nat) (w : World) (h : IL w A c l) (_hl : l.length ≤ 9223372036854775807) (_hk : k ≤ 1000000) :
    Calls Tryz.prog 87 #[.slice A l.length c, .int .i64 (k : Int)] w (TextGet w) := by
  obtain ⟨m, hm⟩ : ∃ m, min k l.length = m := ⟨_, rfl⟩
  have hml : m ≤ l.length := by omega
  obtain ⟨A', c', hs, hrun⟩ := h.cut m hml
  have HT := Lib.hid (fun X (hX : Ext w X) => gtext_lay A' c' (l.drop m) X (h.ok.drop m) (hs.ext hX))
  obtain ⟨n, hn⟩ : ∃ n, (l.drop m).length = n := ⟨_, rfl⟩
  rw [hn] at hrun HT
  obtain ⟨N, hN⟩ : ∃ N, l.length = N := ⟨_, rfl⟩
  rw [hN] at hrun _hl hm hml ⊢
  have HM := Lib.hid hm
  clear h hs hn hN
  have e1 : min (k : Int) (N : Int) = (m : Int) := by omega
  go_enter Tryz.func87, Tryz.ntmps87
  have HT2 := Lib.hid (show Calls Tryz.prog 36 #[.slice A' n c'] (w.alloc (.cells #[.slice none 0 0, .slice none 0 0] 53)) (fun e w' => ∃ t A1 n1 c1 A2 n2 c2, e = .returned (.agg #[.slice A1 n1 c1, .slice A2 n2 c2]) ∧ OkT t ∧ GT (w.heap.size + 1) t (.agg #[.slice A1 n1 c1, .slice A2 n2 c2]) w' ∧ Ext w w' ∧ w'.heap[w.heap.size]? = some (.cells #[.slice none 0 0, .slice none 0 0] 53 (0, 0))) from by
    have hx0 : Ext w (w.alloc (.cells #[.slice none 0 0, .slice none 0 0] 53)) := (Ext.refl w).alloc _
    refine (HT.out _ hx0).mono ?_
    rintro e w' ⟨t, v, rfl, hok, hgt, hx⟩
    have hg2 := hgt
    rw [World.size_alloc] at hg2
    obtain ⟨A1, n1, c1, A2, n2, c2, rfl, h1, h2, h3, h4⟩ := hgt
    exact ⟨t, A1, n1, c1, A2, n2, c2, rfl, hok, hg2, hx0.trans hx, (hx.block _ (by simp)).trans (heap_alloc_new w _)⟩)
  clear HT
  go_wp2_with (first | (go_at_call 36; refine (HT2.out).mono ?_; rintro e w1 ⟨t, A1, n1, c1, A2, n2, c2, rfl, hok, hg, hx, hh⟩; have k0 := cell_of hh (i := 0) (u := .slice none 0 0) rfl; have k1 := cell_of hh (i := 1) (u := .slice none 0 0) rfl; have f0 := frozen_of hh 0; have f1 := frozen_of hh 1; have HG := Lib.hid hg; have HX := Lib.hid hx; have HH := Lib.hid hh; clear hg hx hh))
  refine bodyPost_ret (v := .agg #[.slice A1 n1 c1, .slice A2 n2 c2]) (by simp [results, Tryz.results87, go_sem, *]) rfl ?_
  refine ⟨t, _, rfl, hok, (HG.out.keep (by simp) fun j hj _ => ?_).low (by omega), (HX.out.setCell (p := ⟨w.heap.size, 0, none⟩) (Nat.le_refl _) _).setCell (p := ⟨w.heap.size, 1, none⟩) (Nat.le_refl _) _⟩
  rw [heap_setCell_other _ ⟨w.heap.size, 1, none⟩ j _ (by show j ≠ w.heap.size; omega), heap_setCell_other _ ⟨w.heap.size, 0, none⟩ j _ (by show j ≠ w.heap.size; omega)]
end Go.Proofs.YtdbnddmncbjobaaGreatDoor

/- A slice of integers as an argument, opened. -/
namespace Go.Proofs.YtdbnddmncbjobaaGreatDoor
open Go Go.RowKit Go.WideShapes Go.ChangeShapes Go.Deep

theorem cellsI : Tryz.prog.cellsOf 3 = 1 := by kernel_rfl
theorem add_noneI (b off n : Nat) : (⟨b, off, none⟩ : Addr).add n = ⟨b, off + n, none⟩ := by
  by_cases h : n = 0
  · subst h; simp [Addr.add]
  · simp [Addr.add, h]
section
variable {H : Type} {enc : TypeId × Value → H} {w : World} {base : Nat} {spare : Nat → Bool} {held : Bool}
theorem open_intl {a0 : Option Addr} {len cap fuel : Nat} {x : DataW H × List MemPlace} (h : DataW.trod enc Tryz.prog w base spare held fuel 22 (Value.slice a0 len cap).cells.toList = some x) :
    ∃ l : List Int, len = l.length ∧ IL w a0 cap l ∧ l.length ≤ 9223372036854775807 := by
  suffices hh : ∃ l : List Int, len = l.length ∧ SL icf 1 w a0 len l ∧ I64s l ∧ l.length ≤ cap ∧ (a0 = none → cap = 0) ∧ l.length ≤ 9223372036854775807 by
    obtain ⟨l, rfl, h1, h2, h3, h4, h5⟩ := hh
    exact ⟨l, rfl, ⟨h1, h3, h4, h2⟩, h5⟩
  rcases open_slice Tryz.underlying22 h with ⟨hcs, _⟩ | ⟨a, len', cap', m, n, D, Pl, hcs, _, hl, hm, hmm, hx, hi⟩
  · simp [Value.cells] at hcs
    obtain ⟨rfl, rfl, rfl⟩ := hcs
    exact ⟨[], rfl, SL.nil _, fun n h => (by cases h), by simp, fun _ => rfl, by simp⟩
  · simp [Value.cells] at hcs
    obtain ⟨rfl, rfl, rfl⟩ := hcs
    have hlm : len ≤ m := by rw [hmm]; split <;> omega
    have hall : ∀ i : Nat, ∃ t : Int, i < len → (-9223372036854775808 ≤ t ∧ t ≤ 9223372036854775807) ∧ w.cell? (a.add i) = some (.int .i64 t) := fun i => by
      by_cases hil : i < len
      · obtain ⟨cs', h1, h2⟩ := hi i (by omega)
        rw [cellsI, Nat.mul_one] at h1
        obtain ⟨t, rfl, _, hw⟩ := DataW.trod_int Tryz.underlying3 h2
        obtain ⟨_, _, h3⟩ := World.cells?_some h1
        refine ⟨t, fun _ => ⟨bounds_i64 hw, ?_⟩⟩
        have := h3 0 (by omega)
        rw [Go.Deep.add_add, Nat.add_zero] at this
        rw [this]; rfl
      · exact ⟨0, fun h => absurd h hil⟩
    obtain ⟨F, hF⟩ := Classical.axiomOfChoice hall
    refine ⟨(List.range len).map F, by simp, ⟨by simp, fun h0 => ?_⟩, fun n hn => ?_, by simpa using hl, fun e => (by cases e), by have := hm; unfold maxLen at this; simp; omega⟩
    · obtain ⟨b, off, spot⟩ := a
      have hc := (hF 0 h0).2
      have hspot : spot = none := by simpa [Addr.add] using World.cell?_spot hc
      subst hspot
      have hb : b < w.heap.size := by
        have hc' : w.cell? ⟨b, off, none⟩ = some (.int .i64 (F 0)) := by rw [add_noneI] at hc; exact hc
        by_cases hb : b < w.heap.size
        · exact hb
        · exfalso
          unfold World.cell? at hc'
          rw [show w.heap[b]? = none from Array.getElem?_eq_none (by omega)] at hc'
          simp at hc'
      refine ⟨b, off, rfl, hb, fun i t hti j u hu => ?_⟩
      have hil : i < len := by
        have := (List.getElem?_eq_some_iff.1 hti).1
        simpa using this
      have ht : F i = t := by simpa [hil] using hti
      obtain rfl : j = 0 := by
        have := (List.getElem?_eq_some_iff.1 hu).1
        simpa [icf] using this
      obtain rfl : (.int .i64 t : Value) = u := Option.some.inj hu
      have := (hF i hil).2
      rw [add_noneI, ht] at this
      rw [Nat.mul_one, Nat.add_zero]; exact this
    · obtain ⟨i, hi2, rfl⟩ := List.mem_map.1 hn
      exact (hF i (by simpa using hi2)).1
end
end Go.Proofs.YtdbnddmncbjobaaGreatDoor
