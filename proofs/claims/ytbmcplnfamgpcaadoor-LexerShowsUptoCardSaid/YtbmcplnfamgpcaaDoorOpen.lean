/- A slice of tokens as an argument, opened. -/
import Derived.Test.YtbmcplnfamgpcaaDoorLaid
import Derived.Test.YtbmcplnfamgpcaaDoorLc
import Derived.Deep.Slices
import Derived.ChangeArms
namespace Go.Proofs.YtbmcplnfamgpcaaDoor
open Go Go.RowKit Go.WideShapes Go.ChangeShapes Go.Deep

theorem fld {fs : Array Field} {i t o : Nat} (h : (fs[i]?).map (fun f => (f.type, f.offset)) = some (t, o)) : ∃ f, fs[i]? = some f ∧ f.type = t ∧ f.offset = o := by
  obtain ⟨f, h1, h2⟩ := Option.map_eq_some_iff.1 h
  simp only [Prod.mk.injEq] at h2
  exact ⟨f, h1, h2.1, h2.2⟩
theorem cells3 : Tryd.prog.cellsOf 3 = 1 := by kernel_rfl
theorem cells9 : Tryd.prog.cellsOf 9 = 1 := by kernel_rfl
theorem cells36 : Tryd.prog.cellsOf 36 = 4 := by kernel_rfl
theorem size36 : (Tryd.prog.fieldsOf 36).size = 4 := by kernel_rfl
section
variable {H : Type} {enc : TypeId × Value → H} {w : World} {base : Nat} {spare : Nat → Bool} {held : Bool}
set_option maxRecDepth 100000 in
theorem open_tok {cs : List Value} {x : DataW H × List MemPlace} {fuel : Nat} (h : DataW.trod enc Tryd.prog w base spare held fuel 36 cs = some x) : ∃ t : Tk, cs = tcf t ∧ t.tx.length + 1 ≤ Rows.uptoBulk x.1 := by
  obtain ⟨xs, m, _, hx, hl, hxl, hf⟩ := DataW.trod_struct str36 h
  rw [cells36] at hl
  rw [size36] at hxl
  have g : ∀ i ft o, i < 4 → ((Tryd.prog.fieldsOf 36)[i]?).map (fun f => (f.type, f.offset)) = some (ft, o) → ∃ m, DataW.trod enc Tryd.prog w base spare held m ft ((cs.drop o).take (Tryd.prog.cellsOf ft)) = xs[i]? := fun i ft o hi he => by
    obtain ⟨f, h1, h2, h3⟩ := fld he
    have h4 := hf i f h1
    rw [h2, h3] at h4
    exact ⟨m, h4⟩
  obtain ⟨c0, c1, c2, c3, rfl⟩ : ∃ a b c d, cs = [a, b, c, d] := by
    match cs, hl with
    | [a, b, c, d], _ => exact ⟨a, b, c, d, rfl⟩
  obtain ⟨y0, y1, y2, y3, rfl⟩ : ∃ a b c d, xs = [a, b, c, d] := by
    match xs, hxl with
    | [a, b, c, d], _ => exact ⟨a, b, c, d, rfl⟩
  obtain ⟨_, g0⟩ := g 0 3 0 (by omega) (by kernel_rfl)
  obtain ⟨_, g1⟩ := g 1 3 1 (by omega) (by kernel_rfl)
  obtain ⟨_, g2⟩ := g 2 9 2 (by omega) (by kernel_rfl)
  obtain ⟨_, g3⟩ := g 3 3 3 (by omega) (by kernel_rfl)
  rw [cells3] at g0 g1 g3
  rw [cells9] at g2
  obtain ⟨n0, e0, _⟩ := DataW.trod_int Tryd.underlying3 g0
  obtain ⟨n1, e1, _⟩ := DataW.trod_int Tryd.underlying3 g1
  obtain ⟨s2, e2, d2, _⟩ := DataW.trod_string Tryd.underlying9 g2
  obtain ⟨n3, e3, _⟩ := DataW.trod_int Tryd.underlying3 g3
  simp at e0 e1 e2 e3
  subst e0 e1 e2 e3
  refine ⟨⟨n0, n1, s2.data.toList, n3⟩, rfl, ?_⟩
  rw [hx]
  simp only [List.map_cons, List.map_nil, Rows.uptoBulk, Rows.uptoBulkAll, d2]
  omega
theorem add_none (b off n : Nat) : (⟨b, off, none⟩ : Addr).add n = ⟨b, off + n, none⟩ := by
  by_cases h : n = 0
  · subst h; simp [Addr.add]
  · simp [Addr.add, h]
theorem bulk_tot (F : Nat → Tk) (D : Nat → DataW H) (n : Nat) (h : ∀ i, i < n → (F i).tx.length + 1 ≤ Rows.uptoBulk (D i)) : tot ((List.range n).map F) ≤ Rows.uptoBulkAll ((List.range n).map D) := by
  have happ : ∀ a b : List (DataW H), Rows.uptoBulkAll (a ++ b) = Rows.uptoBulkAll a + Rows.uptoBulkAll b := fun a b => by
    induction a with
    | nil => simp [Rows.uptoBulkAll]
    | cons d a ih => rw [List.cons_append, Rows.uptoBulkAll, Rows.uptoBulkAll, ih]; omega
  induction n with
  | zero => simp [tot, Rows.uptoBulkAll]
  | succ n ih =>
    rw [List.range_succ, List.map_append, List.map_append, tot_app, happ]
    have h1 := ih (fun i hi => h i (by omega))
    have h2 := h n (by omega)
    simp only [List.map_cons, List.map_nil, tot, Rows.uptoBulkAll]
    omega
theorem open_toks {a0 : Option Addr} {len cap fuel : Nat} {x : DataW H × List MemPlace} (h : DataW.trod enc Tryd.prog w base spare held fuel 23 (Value.slice a0 len cap).cells.toList = some x) :
    ∃ l : List Tk, len = l.length ∧ len ≤ cap ∧ SL tcf 4 w a0 len l ∧ tot l ≤ Rows.uptoBulk x.1 := by
  rcases open_slice Tryd.underlying23 h with ⟨hcs, _⟩ | ⟨a, len', cap', m, n, D, Pl, hcs, _, hl, hm, hmm, hx, hi⟩
  · simp [Value.cells] at hcs
    obtain ⟨rfl, rfl, rfl⟩ := hcs
    exact ⟨[], rfl, Nat.le_refl _, SL.nil _, Nat.zero_le _⟩
  · simp [Value.cells] at hcs
    obtain ⟨rfl, rfl, rfl⟩ := hcs
    have hlm : len ≤ m := by rw [hmm]; split <;> omega
    have hall : ∀ i : Nat, ∃ t : Tk, i < len → t.tx.length + 1 ≤ Rows.uptoBulk (D i) ∧ ∀ j, j < 4 → w.cell? (a.add (i * 4 + j)) = (tcf t)[j]? := fun i => by
      by_cases hil : i < len
      · obtain ⟨cs', h1, h2⟩ := hi i (by omega)
        rw [cells36] at h1
        obtain ⟨t, rfl, hs⟩ := open_tok h2
        obtain ⟨_, _, h3⟩ := World.cells?_some h1
        exact ⟨t, fun _ => ⟨hs, fun j hj => by rw [← h3 j hj, Go.Deep.add_add]⟩⟩
      · exact ⟨⟨0, 0, [], 0⟩, fun h => absurd h hil⟩
    obtain ⟨F, hF⟩ := Classical.axiomOfChoice hall
    refine ⟨(List.range len).map F, by simp, hl, ⟨by simp, fun h0 => ?_⟩, ?_⟩
    · obtain ⟨b, off, spot⟩ := a
      have hc : w.cell? (Addr.add ⟨b, off, spot⟩ 0) = some (.int .i64 (F 0).kd) := (hF 0 h0).2 0 (by omega)
      have hspot : spot = none := by simpa [Addr.add] using World.cell?_spot hc
      subst hspot
      have hb : b < w.heap.size := by
        have hc' : w.cell? ⟨b, off, none⟩ = some (.int .i64 (F 0).kd) := by rw [add_none] at hc; exact hc
        by_cases hb : b < w.heap.size
        · exact hb
        · exfalso
          unfold World.cell? at hc'
          rw [show w.heap[b]? = none from Array.getElem?_eq_none (by omega)] at hc'
          simp at hc'
      refine ⟨b, off, rfl, hb, fun i t hti j u hu => ?_⟩
      have hil : i < len := by
        have := (List.getElem?_eq_some_iff.1 hti).1
        simpa using this
      have ht : F i = t := by simpa [hil] using hti
      have hj : j < 4 := (List.getElem?_eq_some_iff.1 hu).1
      have := (hF i hil).2 j hj
      rw [add_none, ht, hu, ← Nat.add_assoc] at this
      exact this
    · rw [hx]
      have := bulk_tot F D len (fun i hi => (hF i hi).1)
      simp only [Rows.uptoBulk]
      omega
end
end Go.Proofs.YtbmcplnfamgpcaaDoor
