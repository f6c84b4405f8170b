/- book.cloned: walked. -/
import Derived.Test.YtdbnddmncbjobaaGreatDoorQas
namespace Go.Proofs.YtdbnddmncbjobaaGreatDoor
section
open Go Go.RowKit

variable {β : Type}
theorem set2_list (l : List Value) (o : Nat) (h : o + 2 ≤ l.length) (a b : Value) : (l.set o a).set (o + 1) b = l.take o ++ [a, b] ++ l.drop (o + 2) := by
  apply List.ext_getElem?
  intro i
  simp only [List.getElem?_set, List.length_set]
  rw [List.append_assoc, List.getElem?_append]
  have hl : (l.take o).length = o := by simp; omega
  rw [hl]
  by_cases h1 : i < o
  · rw [if_pos h1, if_neg (by omega), if_neg (by omega), List.getElem?_take, if_pos h1]
  · rw [if_neg h1]
    by_cases e0 : i = o
    · subst e0; rw [if_neg (by omega), if_pos rfl, if_pos (by omega)]; simp
    by_cases e1 : i = o + 1
    · subst e1; rw [if_pos rfl, if_pos (by omega)]; simp
    rw [if_neg (by omega), if_neg (by omega), List.getElem?_append_right (by simp; omega), List.getElem?_drop]
    congr 1
    simp; omega
theorem put2_eq' (L : List Value) (s N i : Nat) (hs : s = 2) (hl : L.length = N * s) (hi : i < N) (a b : Value) : L.take (i * s) ++ [a, b] ++ L.drop (i * s + s) = (L.set (i * 2) a).set (i * 2 + 1) b := by
  subst hs
  rw [set2_list _ _ (by omega)]
/-- An element of two cells is set. -/
theorem Lay.own_put2 {k : Lay β} (hk : k.sz = 2) {e : TypeId} {W : World} {base g n c : Nat} {P : Nat → Prop} {xs : List β} (h : k.own e W base P (.slice (some ⟨g, 0, none⟩) n c) xs) {i : Nat} (hi : i < xs.length) {u0 u1 : Value} {x : β}
    (hr : k.rep W (fun j => P j ∧ (Value.slice (some ⟨g, 0, none⟩) n c).ownBlock ≠ some j) x [u0, u1]) :
    k.own e ((W.setCell ⟨g, i * 2, none⟩ u0).setCell ⟨g, i * 2 + 1, none⟩ u1) base P (.slice (some ⟨g, 0, none⟩) n c) (xs.set i x) := by
  obtain ⟨ds, h1, h2, h3⟩ := h
  have hn : n = ds.length := by
    rcases h1.2 with ⟨h1, _⟩ | ⟨g', cap, cur, h1, _⟩
    · cases h1
    · injection h1
  subst hn
  obtain ⟨d0, hd0⟩ : ∃ d0 : Cs k.sz, ccf d0 = [u0, u1] := mkCs _ (k.len hr) (k.one hr)
  rw [← hd0] at hr
  unfold OL at h1
  obtain ⟨s1, g1⟩ := World.ownsRow.stored h1 (i * 2) u0
  obtain ⟨s2, g2⟩ := World.ownsRow.stored s1 (i * 2 + 1) u1
  have hl := gcells_len (cf := ccf) ccf_len ds
  have hkeep : ∀ j, j < W.heap.size → (Value.slice (some ⟨g, 0, none⟩) ds.length c).ownBlock ≠ some j → ((W.setCell ⟨g, i * 2, none⟩ u0).setCell ⟨g, i * 2 + 1, none⟩ u1).heap[j]? = W.heap[j]? := fun j _ hj => by
    have hj : j ≠ g := fun e => hj (by rw [e]; rfl)
    rw [heap_setCell_other _ ⟨g, i * 2 + 1, none⟩ j u1 hj, heap_setCell_other _ ⟨g, i * 2, none⟩ j u0 hj]
  have hw : W.heap.size ≤ ((W.setCell ⟨g, i * 2, none⟩ u0).setCell ⟨g, i * 2 + 1, none⟩ u1).heap.size := by simp
  refine ⟨ds.set i d0, ?_, by rw [List.length_set, List.length_set, h2], fun j d y hd hy => ?_⟩
  · unfold OL
    have e2 : gcells ccf (ds.set i d0) = ((gcells ccf ds).set (i * 2) u0).set (i * 2 + 1) u1 := by
      rw [gcells_set ds i _ (by omega), hd0]
      exact put2_eq' _ _ ds.length i hk hl (by omega) _ _
    rw [e2, List.length_set]
    exact s2
  · rw [List.getElem?_set] at hd hy
    by_cases hij : i = j
    · rw [if_pos hij, if_pos (by omega)] at hd
      rw [if_pos hij, if_pos (by omega)] at hy
      injection hd with hd; injection hy with hy
      subst hd hy
      exact k.keep hr hw fun j hj hl => hkeep j hl hj.2
    · rw [if_neg hij] at hd hy
      exact k.keep (h3 j d y hd hy) hw fun j hj hl => hkeep j hl hj.2
/-- A book of bounded sizes. -/
structure TxS (t : Tx) : Prop where
  np : t.paras.length ≤ 1000000
  nn : t.notes.length ≤ 1000000
  len : ∀ p ∈ t.paras ++ t.notes, p.length ≤ 1000000
structure BkS (l : List Se) : Prop where
  n : l.length ≤ 1000000
  nv : ∀ s ∈ l, s.vers.length ≤ 1000000
  nt : ∀ s ∈ l, s.texts.length ≤ 1000000
  tx : ∀ s ∈ l, ∀ t ∈ s.texts, TxS t
theorem put2_se (ds : List (Cs kSe.sz)) (i : Nat) (d : Cs kSe.sz) (hd : ds[i]? = some d) (a b u v x y : Value) (hc : ccf d = [a, b, u, v]) (d' : Cs kSe.sz) (hc' : ccf d' = [a, b, x, y]) : ((gcells ccf ds).set (i * 4 + 2) x).set (i * 4 + 3) y = gcells ccf (ds.set i d') := by
  have hi := (List.getElem?_eq_some_iff.1 hd).1
  have hl : (gcells ccf ds).length = ds.length * 4 := gcells_len ccf_len ds
  have h0 : (gcells ccf ds)[i * 4]? = some a := by
    have := gcells_at (cf := ccf) ccf_len ds i d hd 0 (by rw [kSe_sz]; omega)
    rw [hc] at this
    exact this
  have h1 : (gcells ccf ds)[i * 4 + 1]? = some b := by
    have := gcells_at (cf := ccf) ccf_len ds i d hd 1 (by rw [kSe_sz]; omega)
    rw [hc] at this
    exact this
  have e0 : (gcells ccf ds).set (i * 4) a = gcells ccf ds := by
    obtain ⟨hq, he⟩ := List.getElem?_eq_some_iff.1 h0
    rw [← he]; exact List.set_getElem_self hq
  have e1 : (gcells ccf ds).set (i * 4 + 1) b = gcells ccf ds := by
    obtain ⟨hq, he⟩ := List.getElem?_eq_some_iff.1 h1
    rw [← he]; exact List.set_getElem_self hq
  have h4 := set4_list (gcells ccf ds) (i * 4) (by rw [hl]; omega) a b x y
  rw [e0, e1] at h4
  rw [h4, gcells_set ds i d' hi, hc']
  rfl
/-- The section x lies in blocks from lo to hi: its texts ahead of its versions; both are rows of the call's own. -/
def SeO (W : World) (lo hi : Nat) (x : Se) (cs : List Value) : Prop := ∃ (m : Nat) (A1 : Option Addr) (n1 c1 : Nat) (A2 : Option Addr) (n2 c2 : Nat), cs = [.int .i64 x.ent, .bool x.fz, .slice A1 n1 c1, .slice A2 n2 c2] ∧ lo ≤ m ∧ m ≤ hi ∧ n1 ≤ c1 ∧ n2 ≤ c2 ∧ n1 = x.vers.length ∧ n2 = x.texts.length ∧
  kTx.own 53 W lo (fun q => lo ≤ q ∧ q < m) (.slice A2 n2 c2) x.texts ∧ (∀ j, (Value.slice A2 n2 c2).ownBlock = some j → j < m) ∧ kInt.own 3 W m (fun _ => False) (.slice A1 n1 c1) x.vers ∧ (∀ j, (Value.slice A1 n1 c1).ownBlock = some j → j < hi)
theorem SeO.keep {W W' : World} {lo hi : Nat} {x : Se} {cs : List Value} (h : SeO W lo hi x cs) (hs : W.heap.size ≤ W'.heap.size) (hk : ∀ q, lo ≤ q → q < hi → q < W.heap.size → W'.heap[q]? = W.heap[q]?) : SeO W' lo hi x cs := by
  obtain ⟨m, A1, n1, c1, A2, n2, c2, h1, h2, h3, h4, h5, h6, h7, h8, h9, ha, hb⟩ := h
  refine ⟨m, A1, n1, c1, A2, n2, c2, h1, h2, h3, h4, h5, h6, h7, Lay.own_keep h8 hs fun j hj hl => ?_, h9, Lay.own_keep ha hs fun j hj hl => ?_, hb⟩
  · rcases hj with hj | hj
    · exact hk j hj.1 (by omega) hl
    · exact hk j (Lay.own_lt h8 j hj).1 (by have := h9 j hj; omega) hl
  · rcases hj with hj | hj
    · exact hj.elim
    · exact hk j (by have := (Lay.own_lt ha j hj).1; omega) (hb j hj) hl
theorem SeO.rep {W : World} {lo hi : Nat} {x : Se} {cs : List Value} (h : SeO W lo hi x cs) : kSe.rep W (fun q => lo ≤ q ∧ q < hi) x cs := by
  obtain ⟨m, A1, n1, c1, A2, n2, c2, h1, h2, h3, h4, h5, h6, h7, h8, h9, ha, hb⟩ := h
  obtain ⟨A8, c8, e8, _, r8⟩ := Lay.own_row h8
  obtain ⟨A9, c9, e9, _, r9⟩ := Lay.own_row ha
  obtain ⟨e1, e2, _⟩ := Value.slice.inj e8
  obtain ⟨e4, e5, _⟩ := Value.slice.inj e9
  rw [← e1, ← e2] at r8
  rw [← e4, ← e5] at r9
  refine kSe_rep.2 ⟨A1, n1, c1, A2, n2, c2, h1, h4, h5, Lay.row_mono r9 fun q hq _ => ?_, Lay.row_mono r8 fun q hq _ => ?_⟩
  · rcases hq with hq | hq
    · exact hq.elim
    · exact ⟨by have := (Lay.own_lt ha q hq).1; omega, hb q hq⟩
  · rcases hq with hq | hq
    · omega
    · exact ⟨(Lay.own_lt h8 q hq).1, by have := h9 q hq; omega⟩
theorem lo_mono {lo : Nat → Nat} {i : Nat} (h : ∀ j, j < i → lo j ≤ lo (j + 1)) : ∀ b a, a ≤ b → b ≤ i → lo a ≤ lo b := by
  intro b
  induction b with
  | zero => intro a ha _; obtain rfl : a = 0 := by omega
            exact Nat.le_refl _
  | succ b ih =>
    intro a ha hb
    rcases Nat.lt_or_ge a (b + 1) with h1 | h1
    · exact Nat.le_trans (ih a (by omega) (by omega)) (h b (by omega))
    · obtain rfl : a = b + 1 := by omega
      exact Nat.le_refl _
theorem Lay.own_base {k : Lay β} {e : TypeId} {W : World} {base base' : Nat} {P : Nat → Prop} {v : Value} {xs : List β} (h : k.own e W base P v xs) (hb : base' ≤ base) : k.own e W base' P v xs := by
  obtain ⟨ds, h1, h2⟩ := h
  refine ⟨ds, ⟨h1.1, ?_⟩, h2⟩
  rcases h1.2 with h | ⟨g, cap, cur, a1, a2, a3⟩
  · exact .inl h
  · exact .inr ⟨g, cap, cur, a1, Nat.le_trans hb a2, a3⟩
theorem Lay.own_bd {k : Lay β} {e : TypeId} {W : World} {base : Nat} {P Q : Nat → Prop} {v : Value} {xs : List β} (h : k.own e W base P v xs) (hq : ∀ j, P j → j < W.heap.size → Q j) : k.own e W base Q v xs := Lay.own_mono h hq
def CdR (w : World) (P : Nat → Prop) (g : Nat) (ls : List Se) (s19 : Value) (w' : World) : Prop := ∃ (i : Nat) (ds : List (Cs kSe.sz)) (lo : Nat → Nat), i ≤ ls.length ∧ s19 = .int .i64 i ∧ Ext w w' ∧ w'.heap[g]? = some (.cells (gcells ccf ds).toArray 46 (0, 0)) ∧ ds.length = ls.length ∧
  (g < lo 0 ∧ (∀ j, j < i → lo j ≤ lo (j + 1)) ∧ lo i ≤ w'.heap.size) ∧
  ∀ (j : Nat) (d : Cs kSe.sz) (x : Se), ds[j]? = some d → ls[j]? = some x → (j < i → SeO w' (lo j) (lo (j + 1)) x (ccf d)) ∧ (i ≤ j → kSe.rep w P x (ccf d))
theorem CdR_row {w' : World} {g n : Nat} {ls : List Se} {ds : List (Cs kSe.sz)} (hn : n = ls.length) (h1 : w'.heap[g]? = some (.cells (gcells ccf ds).toArray 46 (0, 0))) (h2 : ds.length = ls.length)
    (h3 : ∀ (j : Nat) (d : Cs kSe.sz) (x : Se), ds[j]? = some d → ls[j]? = some x → kSe.rep w' (fun q => g < q) x (ccf d)) : kSe.row w' (fun q => g ≤ q) (some ⟨g, 0, none⟩) n ls := by
  have hl := gcells_len (cf := ccf) ccf_len ds
  refine ⟨ds, hn, h2, ⟨by omega, fun _ => ⟨g, 0, rfl, lt_of_block h1, fun i d hd j u hu => ?_⟩⟩, fun x hx => ?_, fun i d x hd hx => kSe.mono (h3 i d x hd hx) fun q hq _ => Nat.le_of_lt hq⟩
  · have hj : j < kSe.sz := by rw [← ccf_len d]; exact (List.getElem?_eq_some_iff.1 hu).1
    have := gcells_at (cf := ccf) ccf_len ds i d hd j hj
    rw [hu] at this
    rw [Nat.zero_add]
    exact cell_of h1 (by simpa using this)
  · injection hx with hx; subst hx; exact ⟨Nat.le_refl _, lt_of_block h1⟩
theorem CdR_step {w wr W : World} {P : Nat → Prop} {g : Nat} {ls : List Se} {ds : List (Cs kSe.sz)} {i : Nat} {x : Se} {lo : Nat → Nat} (hx : Ext w wr) (hcur : Ext wr W) (hwg : w.heap.size ≤ g) (hg : wr.heap[g]? = some (.cells (gcells ccf ds).toArray 46 (0, 0))) (hdl : ds.length = ls.length) (hi : ls[i]? = some x)
    (hlo : g < lo 0 ∧ (∀ j, j < i → lo j ≤ lo (j + 1)) ∧ lo i ≤ wr.heap.size)
    (hd : ∀ (j : Nat) (d : Cs kSe.sz) (x : Se), ds[j]? = some d → ls[j]? = some x → (j < i → SeO wr (lo j) (lo (j + 1)) x (ccf d)) ∧ (i ≤ j → kSe.rep w P x (ccf d)))
    {A1 A2 : Option Addr} {n1 n2 c1 c2 : Nat} (hso : SeO W (lo i) W.heap.size x [.int .i64 x.ent, .bool x.fz, .slice A1 n1 c1, .slice A2 n2 c2]) :
    CdR w P g ls (.int .i64 ((i : Int) + 1)) ((W.setCell ⟨g, i * 4 + 2, none⟩ (.slice A1 n1 c1)).setCell ⟨g, i * 4 + 3, none⟩ (.slice A2 n2 c2)) := by
  have hgr : g < wr.heap.size := lt_of_block hg
  have hil := (List.getElem?_eq_some_iff.1 hi).1
  have hll := hcur.lt
  obtain ⟨l1, l2, l3⟩ := hlo
  have hgl : ∀ j, j ≤ i → g < lo j := fun j hj => Nat.lt_of_lt_of_le l1 (lo_mono l2 j 0 (by omega) hj)
  obtain ⟨d, hdi⟩ : ∃ d, ds[i]? = some d := ⟨_, List.getElem?_eq_getElem (by omega)⟩
  obtain ⟨a1, m1, q1, a2, m2, q2, hdc, _⟩ := kSe_rep.1 ((hd i d x hdi hi).2 (Nat.le_refl _))
  have hgW : W.heap[g]? = some (.cells (gcells ccf ds).toArray 46 (0, 0)) := (hcur.block _ hgr).trans hg
  have hkeep : ∀ q, q ≠ g → ((W.setCell ⟨g, i * 4 + 2, none⟩ (.slice A1 n1 c1)).setCell ⟨g, i * 4 + 3, none⟩ (.slice A2 n2 c2)).heap[q]? = W.heap[q]? := fun q hq => by
    rw [heap_setCell_other _ ⟨g, i * 4 + 3, none⟩ q _ hq, heap_setCell_other _ ⟨g, i * 4 + 2, none⟩ q _ hq]
  have hsz : ((W.setCell ⟨g, i * 4 + 2, none⟩ (.slice A1 n1 c1)).setCell ⟨g, i * 4 + 3, none⟩ (.slice A2 n2 c2)).heap.size = W.heap.size := by simp
  have hso' : SeO ((W.setCell ⟨g, i * 4 + 2, none⟩ (.slice A1 n1 c1)).setCell ⟨g, i * 4 + 3, none⟩ (.slice A2 n2 c2)) (lo i) W.heap.size x [.int .i64 x.ent, .bool x.fz, .slice A1 n1 c1, .slice A2 n2 c2] :=
    hso.keep (by omega) fun q hq _ _ => hkeep q (by have := hgl i (Nat.le_refl _); omega)
  have hrep := hso'.rep
  obtain ⟨d', hd'⟩ : ∃ d' : Cs kSe.sz, ccf d' = [.int .i64 x.ent, .bool x.fz, .slice A1 n1 c1, .slice A2 n2 c2] := mkCs _ (kSe.len hrep) (kSe.one hrep)
  refine ⟨i + 1, ds.set i d', fun j => if j ≤ i then lo j else W.heap.size, by omega, by simp, ((hx.trans hcur).setCell (p := ⟨g, i * 4 + 2, none⟩) hwg _).setCell (p := ⟨g, i * 4 + 3, none⟩) hwg _, ?_, by rw [List.length_set]; exact hdl, ⟨by show g < (if 0 ≤ i then lo 0 else W.heap.size); rw [if_pos (by omega)]; exact l1, fun j hj => ?_, by show (if i + 1 ≤ i then lo (i + 1) else W.heap.size) ≤ _; rw [if_neg (by omega), hsz]; exact Nat.le_refl _⟩, fun j dj y hdj hyj => ?_⟩
  · rw [heap_setCell_same _ g (i * 4 + 3) _ 46 _ (heap_setCell_same _ g (i * 4 + 2) _ 46 _ hgW), ← put2_se ds i d hdi _ _ _ _ _ _ hdc d' hd']
    simp
  · show (if j ≤ i then lo j else W.heap.size) ≤ (if j + 1 ≤ i then lo (j + 1) else W.heap.size)
    rw [if_pos (by omega)]
    by_cases hji : j + 1 ≤ i
    · rw [if_pos hji]; exact l2 j (by omega)
    · rw [if_neg hji]
      obtain rfl : j = i := by omega
      omega
  · rw [List.getElem?_set] at hdj
    by_cases hij : i = j
    · subst hij
      rw [if_pos rfl, if_pos (by omega)] at hdj
      injection hdj with hdj
      subst hdj
      rw [hi] at hyj
      injection hyj with hyj
      subst hyj
      rw [hd']
      refine ⟨fun _ => ?_, fun h => by omega⟩
      show SeO _ (if i ≤ i then lo i else W.heap.size) (if i + 1 ≤ i then lo (i + 1) else W.heap.size) _ _
      rw [if_pos (Nat.le_refl _), if_neg (by omega)]
      exact hso'
    · rw [if_neg hij] at hdj
      obtain ⟨g1, g2⟩ := hd j dj y hdj hyj
      refine ⟨fun hlt => ?_, fun hle => g2 (by omega)⟩
      show SeO _ (if j ≤ i then lo j else W.heap.size) (if j + 1 ≤ i then lo (j + 1) else W.heap.size) _ _
      rw [if_pos (by omega), if_pos (by omega)]
      exact (g1 (by omega)).keep (by omega) fun q hq _ hl => (hkeep q (by have := hgl j (by omega); omega)).trans (hcur.block q hl)
end
section
open Go Go.RowKit

theorem info46 : (Tryz.prog.info? 46).map (fun i => (i.zero, i.size, i.bytes)) = some (some (Value.agg #[.int .i64 0, .bool false, .slice none 0 0, .slice none 0 0]), 4, 64) := by kernel_rfl
theorem info53 : (Tryz.prog.info? 53).map (fun i => (i.zero, i.size, i.bytes)) = some (some (Value.agg #[.slice none 0 0, .slice none 0 0]), 2, 48) := by kernel_rfl
/-- make of n sections, and the copy into them. -/
theorem cp_secs (W : World) (P : Nat → Prop) (A : Option Addr) (n c : Nat) (ls : List Se) (h : kSe.row W P A n ls) (hn : n ≤ 1000000) : ∃ (Z : Array Value) (ds0 : List (Cs kSe.sz)), (∀ X, (Instr.makeSlice 25 (.int .i64 (n : Int)) (.int .i64 (n : Int))).run Tryz.prog X = .ok (.slice (some ⟨X.heap.size, 0, none⟩) n n) (X.alloc (.cells Z 46))) ∧
    ∃ v w2, (Builtin.copy_ #[25, 25] 3 #[.slice (some ⟨W.heap.size, 0, none⟩) n n, .slice A n c]).run Tryz.prog (W.alloc (.cells Z 46)) = .ok v w2 ∧ w2.heap[W.heap.size]? = some (.cells (gcells ccf ds0).toArray 46 (0, 0)) ∧ Ext W w2 ∧ ds0.length = ls.length ∧
      ∀ (j : Nat) (d : Cs kSe.sz) (x : Se), ds0[j]? = some d → ls[j]? = some x → kSe.rep W P x (ccf d) := by
  have hmk := fun X => run_mk (P := Tryz.prog) Tryz.underlying25 info46 (by omega) n hn (n : Int) rfl X
  obtain ⟨Z, hZ⟩ : ∃ Z, madeCells (Value.agg #[.int .i64 0, .bool false, .slice none 0 0, .slice none 0 0]).cells (n * 4) = Z := ⟨_, rfl⟩
  simp only [hZ] at hmk
  have hzl : Z.size = n * kSe.sz := by
    have h9 := congrArg List.length (made_flat #[.int .i64 0, .bool false, .slice none 0 0, .slice none 0 0] (by decide) n)
    rw [List.length_flatten, List.map_replicate, List.sum_replicate_nat] at h9
    rw [← hZ]
    exact h9
  obtain ⟨ds0, q1, q2, q3, q4, q5⟩ := h
  refine ⟨Z, ds0, hmk, ?_⟩
  rcases Nat.eq_zero_or_pos n with h0 | h0
  · have hds : ds0 = [] := List.eq_nil_of_length_eq_zero (by omega)
    have hz0 : Z = #[] := Array.eq_empty_of_size_eq_zero (by rw [hzl, h0]; omega)
    refine ⟨_, _, run_copy_zero (P := Tryz.prog) (W.alloc (.cells Z 46)) 25 25 3 46 _ A n n n c 4 Tryz.underlying25 (by kernel_rfl) (by rw [h0]; rfl), ?_, (Ext.refl W).alloc _, q2, q5⟩
    rw [hds, hz0]
    exact heap_alloc_new W _
  · obtain ⟨b0, off, rfl, hb0, hcs⟩ := q3.2 h0
    have hgl : (gcells ccf ds0).length = n * kSe.sz := by rw [gcells_len ccf_len, q2, ← q1]
    have hcpy := run_copy_sz (P := Tryz.prog) (W.alloc (.cells Z 46)) 25 25 3 46 W.heap.size 0 n n kSe.sz ⟨b0, off, none⟩ n c Z 46 (gcells ccf ds0) Tryz.underlying25 (by kernel_rfl) (heap_alloc_new W _) (by rw [hgl]; exact congrArg (· * kSe.sz) (Nat.min_self n).symm) (fun j u hu => by
      have hj : j < ds0.length * kSe.sz := by rw [← gcells_len (cf := ccf) ccf_len]; exact (List.getElem?_eq_some_iff.1 hu).1
      have hjs : j / kSe.sz < ds0.length := Nat.div_lt_of_lt_mul (by rw [Nat.mul_comm]; exact hj)
      have e : j = j / kSe.sz * kSe.sz + j % kSe.sz := by rw [Nat.mul_comm]; exact (Nat.div_add_mod j kSe.sz).symm
      have hmod : j % kSe.sz < kSe.sz := Nat.mod_lt _ (by rw [kSe_sz]; omega)
      rw [e, gcells_at ccf_len ds0 (j / kSe.sz) _ (List.getElem?_eq_getElem hjs) (j % kSe.sz) hmod] at hu
      have := hcs (j / kSe.sz) _ (List.getElem?_eq_getElem hjs) (j % kSe.sz) u hu
      rw [Nat.add_assoc, ← e] at this
      rw [Addr.add_lit]
      exact (((Ext.refl W).alloc (.cells Z 46)).cells.1 b0 _ hb0).trans this) (by rw [hgl]; omega) (gcells_one ccf_one ds0)
    refine ⟨_, _, hcpy, ?_, below_setRow ((Ext.refl W).alloc _) (Nat.le_refl _) _, q2, q5⟩
    rw [setRow_heap (W.alloc (.cells Z 46)) W.heap.size Z _ 46 (0, 0) (heap_alloc_new W _), hgl, List.take_zero, List.nil_append, List.drop_of_length_le (by rw [Array.length_toList, hzl]; omega), List.append_nil]
/-- make of n texts. -/
theorem mkTexts (n : Nat) (hn : n ≤ 1000000) : ∃ Z : Array Value, (∀ W (b : Nat) (w : World) P, W.heap[b]? = some (.cells Z 53 (0, 0)) → w.heap.size ≤ b → kTx.own 53 W w.heap.size P (.slice (some ⟨b, 0, none⟩) n n) (List.replicate n ⟨[], []⟩)) ∧
    ∀ W, (Instr.makeSlice 44 (.int .i64 (n : Int)) (.int .i64 (n : Int))).run Tryz.prog W = .ok (.slice (some ⟨W.heap.size, 0, none⟩) n n) (W.alloc (.cells Z 53)) := by
  refine ⟨_, fun W b w P h hb => ?_, fun W => run_mk (P := Tryz.prog) Tryz.underlying44 info53 (by omega) n hn (n : Int) rfl W⟩
  refine own_zero (k := kTx) 53 w P ⟨[], []⟩ [.slice none 0 0, .slice none 0 0] (fun W Q => kTx_rep.2 ⟨none, 0, 0, none, 0, 0, rfl, Nat.le_refl _, Nat.le_refl _, Lay.row_nil _ _ _, Lay.row_nil _ _ _⟩) n hn _ ?_ W b h hb
  exact made_flat #[.slice none 0 0, .slice none 0 0] (by decide) n
/-- A book's sections in a block of the call's own. -/
def BkO (W : World) (base : Nat) (ls : List Se) (g : Nat) : Prop := ∃ ds : List (Cs kSe.sz), base ≤ g ∧ W.heap[g]? = some (.cells (gcells ccf ds).toArray 46 (0, 0)) ∧ ds.length = ls.length ∧ ∀ (j : Nat) (d : Cs kSe.sz) (x : Se), ds[j]? = some d → ls[j]? = some x → kSe.rep W (fun q => g < q) x (ccf d)
theorem BkO.row {W : World} {base : Nat} {ls : List Se} {g : Nat} (h : BkO W base ls g) : kSe.row W (fun q => base ≤ q) (some ⟨g, 0, none⟩) ls.length ls := by
  obtain ⟨ds, h0, h1, h2, h3⟩ := h
  exact Lay.row_mono (CdR_row rfl h1 h2 h3) fun j hj _ => Nat.le_trans h0 hj
/-- A book's sections in a block of the call's own, each of them in blocks of its own. -/
def BkQ (W : World) (base : Nat) (ls : List Se) (g : Nat) : Prop := ∃ (ds : List (Cs kSe.sz)) (lo : Nat → Nat), base ≤ g ∧ W.heap[g]? = some (.cells (gcells ccf ds).toArray 46 (0, 0)) ∧ ds.length = ls.length ∧ (g < lo 0 ∧ (∀ j, j < ls.length → lo j ≤ lo (j + 1)) ∧ lo ls.length ≤ W.heap.size) ∧ ∀ (j : Nat) (d : Cs kSe.sz) (x : Se), ds[j]? = some d → ls[j]? = some x → SeO W (lo j) (lo (j + 1)) x (ccf d)
theorem BkQ.bko {W : World} {base : Nat} {ls : List Se} {g : Nat} (h : BkQ W base ls g) : BkO W base ls g := by
  obtain ⟨ds, lo, h0, h1, h2, ⟨l1, l2, l3⟩, h3⟩ := h
  refine ⟨ds, h0, h1, h2, fun j d x hd hx => kSe.mono (h3 j d x hd hx).rep fun q hq _ => ?_⟩
  have := lo_mono l2 j 0 (by omega) (by have := (List.getElem?_eq_some_iff.1 hx).1; omega)
  omega
/-- The first k texts are copied. -/
def CdT (w4 : World) (gt : Nat) (ts : List Tx) (s31 : Value) (w' : World) : Prop := ∃ k : Nat, k ≤ ts.length ∧ s31 = .int .i64 k ∧ Mv gt w4 w' ∧ kTx.own 53 w' gt (fun q => gt < q) (.slice (some ⟨gt, 0, none⟩) ts.length ts.length) (ts.take k ++ List.replicate (ts.length - k) ⟨[], []⟩)
set_option maxHeartbeats 8000000 in
set_option maxRecDepth 100000 in
theorem cloned_own (P : Nat → Prop) (w : World) (b : Bk) (A : Option Addr) (n c : Nat) (h : kSe.row w P A n b.secs) (hs : BkS b.secs) :
    Calls Tryz.prog 76 #[.agg #[.int .i64 b.ms, .int .i64 b.ht, .slice A n c]] w (fun e w' => ∃ g, e = .returned (.agg #[.int .i64 b.ms, .int .i64 b.ht, .slice (some ⟨g, 0, none⟩) n n]) ∧ BkQ w' w.heap.size b.secs g ∧ Ext w w') := by
  have hn : n ≤ 1000000 := by have := Lay.row_len h; have := hs.n; omega
  obtain ⟨b1, hb1⟩ : ∃ b1, w.heap.size = b1 := ⟨_, rfl⟩
  have HBE := Lib.hid hb1
  have HL := Lib.hid (Lay.row_len h)
  have HS := Lib.hid hs
  have HH := Lib.hid h
  clear h hs
  go_enter Tryz.func76, Tryz.ntmps76
  go_upto_region 1 with (fail)
  obtain ⟨W0, hW0⟩ : ∃ W0, (w.alloc (.cells #[.int .i64 b.ms, .int .i64 b.ht, .slice A n c] 27)).alloc (.cells #[.int .i64 0, .int .i64 0, .slice none 0 0] 27) = W0 := ⟨_, rfl⟩
  rw [hW0]
  have hx0 : Ext w W0 := by rw [← hW0]; exact ((Ext.refl w).alloc _).alloc _
  have hB1 : W0.heap[b1]? = some (.cells #[.int .i64 b.ms, .int .i64 b.ht, .slice A n c] 27 (0, 0)) := by
    rw [← hW0, ← hb1]
    exact (Below.heap_alloc _ _ _ (by simp)).trans (heap_alloc_new w _)
  have hB2 : W0.heap[b1 + 1]? = some (.cells #[.int .i64 0, .int .i64 0, .slice none 0 0] 27 (0, 0)) := by
    rw [← hW0, ← hb1]
    have := heap_alloc_new (w.alloc (.cells #[.int .i64 b.ms, .int .i64 b.ht, .slice A n c] 27)) (.cells #[.int .i64 0, .int .i64 0, .slice none 0 0] 27)
    rwa [World.size_alloc] at this
  have hsz : W0.heap.size = b1 + 2 := by rw [← hW0]; simp only [World.size_alloc]; omega
  obtain ⟨Z, ds0, hmk, vc, w2, hcpy, hg2, hx2, hdl, hd0⟩ := cp_secs W0 P A n c b.secs (Lay.row_ext HH.out hx0) hn
  obtain ⟨g, hg⟩ : ∃ g, W0.heap.size = g := ⟨_, rfl⟩
  have HCPY := Lib.hid hcpy
  have HB1 := Lib.hid hB1
  have HB2 := Lib.hid hB2
  have HX0 := Lib.hid hx0
  have HX2 := Lib.hid hx2
  rw [hg] at hg2 hsz HCPY
  have HG2 := Lib.hid hg2
  have HD0 := Lib.hid hd0
  have HDL := Lib.hid hdl
  have HBA := Lib.hid (fun X (hX : Ext W0 X) => (show X.cell? ⟨b1, 0, none⟩ = some (.int .i64 b.ms) ∧ X.cell? ⟨b1, 1, none⟩ = some (.int .i64 b.ht) ∧ X.cell? ⟨b1, 2, none⟩ = some (.slice A n c) from
    ⟨cell_of ((hX.block _ (lt_of_block HB1.out)).trans HB1.out) rfl, cell_of ((hX.block _ (lt_of_block HB1.out)).trans HB1.out) rfl, cell_of ((hX.block _ (lt_of_block HB1.out)).trans HB1.out) rfl⟩)) 
  have d2 := (HBA.out W0 (Ext.refl _)).2.2
  have d2' := (HBA.out (W0.alloc (.cells Z 46)) ((Ext.refl _).alloc _)).2.2
  have lb1 : b1 < g := by omega
  have HBW := Lib.hid (show b1 + 2 = g from hsz.symm)
  clear hcpy hB1 hB2 hx0 hx2 hg2 hd0 hdl hW0 hsz
  go_wp2_with (first | (refine wpList_copy_run' (s := .tmp 13) (x := .tmp 15) HCPY.out rfl rfl rfl rfl ?_))
  go_loopw [4, 5, 6, 19] (fun _ _ _ s19 w' => CdR W0 P g b.secs s19 w') (fun _ _ _ s19 _ => toM n s19)
  case atStart => exact ⟨0, ds0, fun _ => g + 1, by omega, rfl, HX2.out, HG2.out, HDL.out, ⟨Nat.lt_succ_self _, fun j hj => Nat.le_refl _, lt_of_block HG2.out⟩, fun j d x hd hx => ⟨fun h => by omega, fun _ => HD0.out j d x hd hx⟩⟩
  case round =>
    obtain ⟨i, ds, lo, hi, rfl, hx, hgr, hdl, hlo, hd⟩ := hrel
    have HLO := Lib.hid hlo
    clear hlo
    have HXr := Lib.hid hx
    have HG := Lib.hid hgr
    have HDS := Lib.hid hd
    clear hx hgr hd
    by_cases hlt : i < n
    case neg =>
      obtain rfl : n = i := by have := HL.out; omega
      have hni : ¬ ((n : Int) < (n : Int)) := by omega
      have e1 := (HXr.out.block _ (lt_of_block HB1.out)).trans HB1.out
      have e2 := (HXr.out.block _ (lt_of_block HB2.out)).trans HB2.out
      have a0 := cell_of e1 (i := 0) rfl
      have a1 := cell_of e1 (i := 1) rfl
      have a2 := cell_of e1 (i := 2) rfl
      have a3 := frozen_of e1 2
      have f0 := cell_of e2 (i := 0) rfl
      have f1 := cell_of e2 (i := 1) rfl
      have f2 := cell_of e2 (i := 2) rfl
      have f3 := frozen_of e2 0
      have f4 := frozen_of e2 1
      have f5 := frozen_of e2 2
      have hne : ¬ b1 = b1 + 1 := by omega
      have hne2 : ¬ b1 + 1 = b1 := by omega
      have HFN := Lib.hid (show BkQ ((((wr.setCell ⟨b1, 2, none⟩ (.slice (some ⟨g, 0, none⟩) n n)).setCell ⟨b1 + 1, 0, none⟩ (.int .i64 b.ms)).setCell ⟨b1 + 1, 1, none⟩ (.int .i64 b.ht)).setCell ⟨b1 + 1, 2, none⟩ (.slice (some ⟨g, 0, none⟩) n n)) w.heap.size b.secs g ∧ Ext w ((((wr.setCell ⟨b1, 2, none⟩ (.slice (some ⟨g, 0, none⟩) n n)).setCell ⟨b1 + 1, 0, none⟩ (.int .i64 b.ms)).setCell ⟨b1 + 1, 1, none⟩ (.int .i64 b.ht)).setCell ⟨b1 + 1, 2, none⟩ (.slice (some ⟨g, 0, none⟩) n n)) ∧
        ((((wr.setCell ⟨b1, 2, none⟩ (.slice (some ⟨g, 0, none⟩) n n)).setCell ⟨b1 + 1, 0, none⟩ (.int .i64 b.ms)).setCell ⟨b1 + 1, 1, none⟩ (.int .i64 b.ht)).setCell ⟨b1 + 1, 2, none⟩ (.slice (some ⟨g, 0, none⟩) n n)).heap[b1 + 1]? = some (.cells #[.int .i64 b.ms, .int .i64 b.ht, .slice (some ⟨g, 0, none⟩) n n] 27 (0, 0)) by
        have hbe := HBE.out
        have hbw := HBW.out
        have hkp : ∀ j, g ≤ j → ((((wr.setCell ⟨b1, 2, none⟩ (.slice (some ⟨g, 0, none⟩) n n)).setCell ⟨b1 + 1, 0, none⟩ (.int .i64 b.ms)).setCell ⟨b1 + 1, 1, none⟩ (.int .i64 b.ht)).setCell ⟨b1 + 1, 2, none⟩ (.slice (some ⟨g, 0, none⟩) n n)).heap[j]? = wr.heap[j]? := fun j hj => by
          rw [heap_setCell_other _ ⟨b1 + 1, 2, none⟩ j _ (by show j ≠ b1 + 1; omega), heap_setCell_other _ ⟨b1 + 1, 1, none⟩ j _ (by show j ≠ b1 + 1; omega), heap_setCell_other _ ⟨b1 + 1, 0, none⟩ j _ (by show j ≠ b1 + 1; omega), heap_setCell_other _ ⟨b1, 2, none⟩ j _ (by show j ≠ b1; omega)]
        refine ⟨⟨ds, lo, by omega, (hkp g (Nat.le_refl _)).trans HG.out, hdl, ⟨HLO.out.1, fun j hj => HLO.out.2.1 j (by have := HL.out; omega), by have h9 := HLO.out.2.2; have h8 := HL.out; rw [← h8]; simpa using h9⟩, fun j d x hd hx => ((HDS.out j d x hd hx).1 (by have := HL.out; have := (List.getElem?_eq_some_iff.1 hx).1; omega)).keep (by simp) fun q hq _ _ => hkp q (by have h9 := HLO.out.1; have h8 := lo_mono HLO.out.2.1 j 0 (by omega) (by have := HL.out; have := (List.getElem?_eq_some_iff.1 hx).1; omega); omega)⟩, ((((HX0.out.trans HXr.out).setCell (p := ⟨b1, 2, none⟩) (by show w.heap.size ≤ b1; omega) _).setCell (p := ⟨b1 + 1, 0, none⟩) (by show w.heap.size ≤ b1 + 1; omega) _).setCell (p := ⟨b1 + 1, 1, none⟩) (by show w.heap.size ≤ b1 + 1; omega) _).setCell (p := ⟨b1 + 1, 2, none⟩) (by show w.heap.size ≤ b1 + 1; omega) _, ?_⟩
        · rw [heap_setCell_same _ (b1 + 1) 2 _ 27 _ (heap_setCell_same _ (b1 + 1) 1 _ 27 _ (heap_setCell_same _ (b1 + 1) 0 _ 27 _ ((heap_setCell_other _ ⟨b1, 2, none⟩ (b1 + 1) _ (by show b1 + 1 ≠ b1; omega)).trans e2)))]
          rfl)
      have z0 := cell_of HFN.out.2.2 (i := 0) rfl
      have z1 := cell_of HFN.out.2.2 (i := 1) rfl
      have z2 := cell_of HFN.out.2.2 (i := 2) rfl
      clear e1 e2
      go_wp2_with fail
      refine bodyPost_ret (v := .agg #[.int .i64 b.ms, .int .i64 b.ht, .slice (some ⟨g, 0, none⟩) n n]) (by simp [results, Tryz.results76, go_sem, *]) rfl ?_
      exact ⟨g, rfl, by first | exact HFN.out.1 | (have h9 := HFN.out.1; simp only [HBE.out] at h9; exact h9), HFN.out.2.1⟩
    have hI : (i : Int) < (n : Int) := by omega
    obtain ⟨x, hx⟩ : ∃ x, b.secs[i]? = some x := ⟨_, List.getElem?_eq_getElem (by have := HL.out; omega)⟩
    obtain ⟨d, hdi⟩ : ∃ d, ds[i]? = some d := ⟨_, List.getElem?_eq_getElem (by have := HL.out; omega)⟩
    have hrep := (HDS.out i d x hdi hx).2 (Nat.le_refl _)
    obtain ⟨A1, n1, c1, A2, n2, c2, hdc, h1, h2, hr1, hr2⟩ := kSe_rep.1 hrep
    have hcl : ∀ k u, (ccf d)[k]? = some u → wr.cell? ⟨g, i * 4 + k, none⟩ = some u := fun k u hu => by
      have hk : k < kSe.sz := by rw [← ccf_len d]; exact (List.getElem?_eq_some_iff.1 hu).1
      have h9 := gcells_at (cf := ccf) ccf_len ds i d hdi k hk
      rw [hu] at h9
      have h9' : (gcells ccf ds)[i * 4 + k]? = some u := h9
      exact cell_of HG.out (by simpa using h9')
    rw [hdc] at hcl
    have e0 := hcl 0 _ rfl
    have e1 := hcl 1 _ rfl
    have e2 := hcl 2 _ rfl
    have e3 := hcl 3 _ rfl
    rw [Nat.add_zero] at e0
    have HR1 := Lib.hid (Lay.row_ext hr1 HXr.out)
    have HR2 := Lib.hid (Lay.row_ext hr2 HXr.out)
    have hnv := HS.out.nv x (List.mem_of_getElem? hx)
    have hnt := HS.out.nt x (List.mem_of_getElem? hx)
    have HTS := Lib.hid (HS.out.tx x (List.mem_of_getElem? hx))
    have HEv := Lib.hid (Lay.row_len hr1)
    have HEt := Lib.hid (Lay.row_len hr2)
    have HXI := Lib.hid hx
    have hgl : g < wr.heap.size := lt_of_block HG.out
    obtain ⟨ZT, hzt, hmkt⟩ := mkTexts n2 (by have := HEt.out; omega)
    have HZT := Lib.hid hzt
    obtain ⟨x1, x2, x3, x4⟩ := x
    simp only at e0 e1 HR1 HR2 hnv hnt HTS HEv HEt
    clear hcl hrep hr1 hr2 hx hzt hdc hdi
    go_wp2_with fail
    obtain ⟨w4, hw4⟩ : ∃ w4, (wr.alloc (.cells #[.int .i64 x1, .bool x2, .slice A1 n1 c1, .slice A2 n2 c2] 46)).alloc (.cells ZT 53) = w4 := ⟨_, rfl⟩
    rw [hw4]
    obtain ⟨gt, hgt⟩ : ∃ gt, wr.heap.size + 1 = gt := ⟨_, rfl⟩
    rw [hgt]
    have HX4 := Lib.hid (show Ext wr w4 by rw [← hw4]; exact ((Ext.refl wr).alloc _).alloc _)
    have HSB := Lib.hid (show w4.heap[wr.heap.size]? = some (.cells #[.int .i64 x1, .bool x2, .slice A1 n1 c1, .slice A2 n2 c2] 46 (0, 0)) by
      rw [← hw4]
      exact (Below.heap_alloc _ _ _ (by simp)).trans (heap_alloc_new wr _))
    have HO4 := Lib.hid (show kTx.own 53 w4 gt (fun q => gt < q) (.slice (some ⟨gt, 0, none⟩) n2 n2) (List.replicate n2 ⟨[], []⟩) by
      have h9 := HZT.out w4 gt (wr.alloc (.cells #[.int .i64 x1, .bool x2, .slice A1 n1 c1, .slice A2 n2 c2] 46)) (fun q => gt < q) (by
        rw [← hw4, ← hgt]
        have := heap_alloc_new (wr.alloc (.cells #[.int .i64 x1, .bool x2, .slice A1 n1 c1, .slice A2 n2 c2] 46)) (.cells ZT 53)
        rwa [World.size_alloc] at this) (by rw [World.size_alloc]; omega)
      rw [World.size_alloc, hgt] at h9
      exact h9)
    have h4s : gt < w4.heap.size := by rw [← hw4, World.size_alloc, World.size_alloc]; omega
    have hgg : g < gt := by omega
    have HSBG := Lib.hid (show wr.heap.size < gt by omega)
    clear hw4 hgt
    go_loopw [7, 8, 31] (fun _ _ s31 w' => CdT w4 gt x4 s31 w') (fun _ _ s31 _ => toM n2 s31)
    case atStart => exact ⟨0, by omega, rfl, Mv.refl _ _, by have h9 := HO4.out; rw [HEt.out] at h9; simpa using h9⟩
    case round =>
      rename World => wq
      obtain ⟨k, hk, rfl, hmv, ho⟩ := hrel
      have HMV := Lib.hid hmv
      have HO := Lib.hid ho
      have HXQ := Lib.hid (hmv.ext wr (Nat.le_of_lt HSBG.out) HX4.out)
      have hsbq := (hmv.keep wr.heap.size (by have := HSBG.out; omega) (by have := HSBG.out; omega)).trans HSB.out
      clear hmv ho
      by_cases hlk : k < n2
      case neg =>
        obtain rfl : n2 = k := by have := HEt.out; omega
        have hnk : ¬ ((n2 : Int) < (n2 : Int)) := by omega
        have s2 := cell_of hsbq (i := 2) rfl
        have HTR := Lib.hid (show kTx.own 53 wq gt (fun q => gt < q) (.slice (some ⟨gt, 0, none⟩) n2 n2) x4 by
          have h9 := HO.out
          have h8 := HEt.out
          rw [← h8, Nat.sub_self, List.replicate_zero, List.append_nil, List.take_of_length_le (by omega)] at h9
          exact h9)
        have HCL := Lib.hid (clone_int P (fun _ => False) wq A1 n1 c1 x3 (Lay.row_ext HR1.out HXQ.out) (by have := HEv.out; omega))
        have HFZ := Lib.hid (show ∀ X, Ext wr X → (∃ u, X.cell? ⟨g, i * 4 + 2, none⟩ = some u) ∧ (∃ u, X.cell? ⟨g, i * 4 + 3, none⟩ = some u) ∧ X.frozen? ⟨g, i * 4 + 2, none⟩ = false ∧ X.frozen? ⟨g, i * 4 + 3, none⟩ = false from fun X hX => by
          have h9 := (hX.block _ hgl).trans HG.out
          have hl9 : (gcells ccf ds).length = ds.length * 4 := gcells_len ccf_len ds
          exact ⟨⟨_, cell_of h9 (Array.getElem?_eq_getElem (by rw [List.size_toArray, hl9, hdl]; have := HL.out; omega))⟩, ⟨_, cell_of h9 (Array.getElem?_eq_getElem (by rw [List.size_toArray, hl9, hdl]; have := HL.out; omega))⟩, frozen_of h9 _, frozen_of h9 _⟩)
        go_wp2_with fail
        refine HCL.out.mono ?_
        rintro e w6 ⟨A7, c7, rfl, h7, ho7, hx7⟩
        have hcur : Ext wr w6 := HXQ.out.trans hx7
        obtain ⟨⟨u2, f0⟩, ⟨u3, f1⟩, f2, f3⟩ := HFZ.out _ hcur
        have hlt7 := Lay.own_lt ho7
        have HST := Lib.hid (CdR_step (P := P) (lo := lo) HXr.out hcur (by omega) HG.out hdl HXI.out HLO.out HDS.out (A1 := A7) (n1 := n1) (c1 := c7) (A2 := some ⟨gt, 0, none⟩) (n2 := n2) (c2 := n2)
          ⟨wq.heap.size, A7, n1, c7, some ⟨gt, 0, none⟩, n2, n2, rfl, Nat.le_trans HLO.out.2.2 HXQ.out.lt, hx7.lt, h7, Nat.le_refl n2, HEv.out, HEt.out,
            Lay.own_base (Lay.own_ext (Lay.own_bd HTR.out (fun q hq hl => ⟨by have := HLO.out.2.2; have := HSBG.out; omega, hl⟩)) hx7) (by have := HLO.out.2.2; have := HSBG.out; omega), fun j hj => (Lay.own_lt HTR.out j hj).2, ho7, fun j hj => (hlt7 j hj).2⟩)
        clear ho7 hx7
        go_wp2_with fail
        go_roundw
        case rel => exact HST.out
        case measure => simp only [toM]; omega
      have hK : (k : Int) < (n2 : Int) := by omega
      obtain ⟨tx, htx⟩ : ∃ tx, x4[k]? = some tx := ⟨_, List.getElem?_eq_getElem (by have := HEt.out; omega)⟩
      obtain ⟨b5, o5, cs5, rfl, hb5, _, hrep5, hcell5⟩ := Lay.row_at (Lay.row_ext HR2.out HXQ.out) htx
      obtain ⟨A5, n5, c5, A6, n6, c6, rfl, h5, h6, hr5, hr6⟩ := kTx_rep.1 hrep5
      have y0 := hcell5 0 _ rfl
      have y1 := hcell5 1 _ rfl
      rw [kTx_sz] at y0 y1
      rw [Nat.add_zero] at y0
      have hts := HTS.out tx (List.mem_of_getElem? htx)
      have HTX := Lib.hid (fun X (hX : Ext wq X) => text_any P X tx A5 A6 n5 n6 c5 c6 (Lay.row_ext hr5 hX) (Lay.row_ext hr6 hX) (by have := Lay.row_len hr5; have := hts.np; omega) (by have := Lay.row_len hr6; have := hts.nn; omega) hts.len)
      have HTI := Lib.hid htx
      have hgq : gt < wq.heap.size := Nat.lt_of_lt_of_le h4s HMV.out.size
      clear hcell5 hrep5 hr5 hr6 htx
      go_wp2_with fail
      refine (HTX.out _ ((Ext.refl wq).alloc _)).mono ?_
      rintro e w6 ⟨v, rfl, ⟨A7, n7, c7, A8, n8, c8, rfl, h7, h8, hr7, hr8⟩, hx6⟩
      have hxq6 : Ext wq w6 := ((Ext.refl wq).alloc _).trans hx6
      have ho6 := Lay.own_ext HO.out hxq6
      obtain ⟨cur, hcurB, hcs⟩ := own_block ho6
      have hlen6 : (x4.take k ++ List.replicate (x4.length - k) (⟨[], []⟩ : Tx)).length = n2 := by rw [List.length_append, List.length_take, List.length_replicate]; have := HEt.out; omega
      rw [hlen6, kTx_sz] at hcs
      obtain ⟨v0, g0⟩ : ∃ v, w6.cell? ⟨gt, k * 2, none⟩ = some v := ⟨_, cell_of hcurB (Array.getElem?_eq_getElem (by omega))⟩
      obtain ⟨v1, g1⟩ : ∃ v, w6.cell? ⟨gt, k * 2 + 1, none⟩ = some v := ⟨_, cell_of hcurB (Array.getElem?_eq_getElem (by omega))⟩
      have g2 := frozen_of hcurB (k * 2)
      have g3 := frozen_of hcurB (k * 2 + 1)
      have HREL := Lib.hid (show CdT w4 gt x4 (.int .i64 ((k : Int) + 1)) ((w6.setCell ⟨gt, k * 2, none⟩ (.slice A7 n7 c7)).setCell ⟨gt, k * 2 + 1, none⟩ (.slice A8 n8 c8)) by
        refine ⟨k + 1, by have := HEt.out; omega, by simp, ((HMV.out.trans (Mv.of_ext hxq6)).trans (Mv.set _)).trans (Mv.set _), ?_⟩
        have hm : ∀ {A : Option Addr} {n : Nat} {xs : List (List Wd)}, kWs.row w6 (fun j => (wq.alloc (.cells #[.slice A5 n5 c5, .slice A6 n6 c6] 53)).heap.size ≤ j) A n xs → kWs.row w6 (fun j => gt < j ∧ (Value.slice (some ⟨gt, 0, none⟩) x4.length x4.length).ownBlock ≠ some j) A n xs := fun h => Lay.row_mono h fun j hj _ => by
          rw [World.size_alloc] at hj
          exact ⟨by have := HMV.out.size; omega, by simp [Value.ownBlock]; omega⟩
        have h9 := Lay.own_put2 kTx_sz ho6 (i := k) (by rw [hlen6]; omega) (x := tx) (kTx_rep.2 ⟨A7, n7, c7, A8, n8, c8, rfl, h7, h8, hm hr7, hm hr8⟩)
        rwa [take_setL _ _ _ _ _ (by have := HEt.out; omega) HTI.out] at h9)
      clear hcurB hcs ho6 hr7 hr8 hx6 hxq6 hlen6
      go_wp2_with fail
      go_roundw
      case rel => exact HREL.out
      case measure => simp only [toM]; omega
theorem cloned_any (P : Nat → Prop) (w : World) (b : Bk) (A : Option Addr) (n c : Nat) (h : kSe.row w P A n b.secs) (hs : BkS b.secs) :
    Calls Tryz.prog 76 #[.agg #[.int .i64 b.ms, .int .i64 b.ht, .slice A n c]] w (fun e w' => ∃ g, e = .returned (.agg #[.int .i64 b.ms, .int .i64 b.ht, .slice (some ⟨g, 0, none⟩) n n]) ∧ BkO w' w.heap.size b.secs g ∧ Ext w w') := by
  refine (cloned_own P w b A n c h hs).mono ?_
  rintro e w' ⟨g, rfl, h1, h2⟩
  exact ⟨g, rfl, h1.bko, h2⟩
end
section
open Go Go.RowKit

end
end Go.Proofs.YtdbnddmncbjobaaGreatDoor