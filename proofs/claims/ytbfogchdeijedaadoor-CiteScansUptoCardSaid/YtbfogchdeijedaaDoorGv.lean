/- The text of the law CiteScans in memory, and the words that are filled. -/
import Derived.Test.YtbfogchdeijedaaDoorGs
import Derived.Test.YtbfogchdeijedaaDoorPar
namespace Go.Proofs.YtbfogchdeijedaaDoor
open Go Go.RowKit

/-- The text t in its own block g: paragraphs and notes in blocks that the law has made. -/
structure SS (w W : World) (g : Nat) (vp : Value) (pg : List Pg) (vn : Value) (pn : List Pg) : Prop where
  tx : TXs W w.heap.size vp pg vn pn
  bl : W.heap[g]? = some (.cells #[vp, vn] 42 (0, 0))
  np : ∀ k ∈ Feet vp pg ++ Feet vn pn, k < g
  hg : w.heap.size ≤ g
  hx : Ext w W
theorem SS.new {w w1 : World} {vp vn : Value} {pg pn : List Pg} (h : TXs w1 w.heap.size vp pg vn pn) (hx : Ext w w1) : SS w (w1.alloc (.cells #[vp, vn] 42)) w1.heap.size vp pg vn pn :=
  ⟨h.ext ((Ext.refl _).alloc _), heap_alloc_new _ _, fun k hk => by
    rcases List.mem_append.1 hk with hk | hk
    · exact (h.1.lts k hk).2
    · exact (h.2.1.lts k hk).2, hx.lt, hx.alloc _⟩
theorem SS.lt {w W : World} {g : Nat} {vp vn : Value} {pg pn : List Pg} (h : SS w W g vp pg vn pn) : g < W.heap.size := lt_of_block h.bl
theorem SS.ext {w W W' : World} {g : Nat} {vp vn : Value} {pg pn : List Pg} (h : SS w W g vp pg vn pn) (hx : Ext W W') : SS w W' g vp pg vn pn :=
  ⟨h.tx.ext hx, by rw [hx.block g h.lt]; exact h.bl, h.np, h.hg, h.hx.trans hx⟩
theorem SS.c0 {w W : World} {g : Nat} {vp vn : Value} {pg pn : List Pg} (h : SS w W g vp pg vn pn) : W.cell? ⟨g, 0, none⟩ = some vp := by rw [cell_of_row W _ _ _ 42 (0, 0) h.bl]; rfl
theorem SS.c1 {w W : World} {g : Nat} {vp vn : Value} {pg pn : List Pg} (h : SS w W g vp pg vn pn) : W.cell? ⟨g, 1, none⟩ = some vn := by rw [cell_of_row W _ _ _ 42 (0, 0) h.bl]; rfl
theorem map_set_l {α : Type} (f : Pg → α) (pg : List Pg) (i : Nat) (p : Pg) (hi : pg[i]? = some p) (q : Pg) (hq : f q = f p) : (pg.set i q).map f = pg.map f := by
  have hil := (List.getElem?_eq_some_iff.1 hi).1
  rw [List.map_set]
  apply List.ext_getElem?
  intro n
  rw [List.getElem?_set]
  split
  · next hn => subst hn; rw [if_pos (by simpa using hil), List.getElem?_map, hi, hq]; rfl
  · rfl
theorem SS.swap {w W : World} {g : Nat} {vp vn : Value} {pg pn : List Pg} (tx : TXs W w.heap.size vp pg vn pn) (bl : W.heap[g]? = some (.cells #[vp, vn] 42 (0, 0))) (np : ∀ k ∈ Feet vp pg ++ Feet vn pn, k < g) (hg : w.heap.size ≤ g) (hx : Ext w W) : SS w W g vp pg vn pn := ⟨tx, bl, np, hg, hx⟩
theorem SS.setP {w W : World} {g : Nat} {vp vn : Value} {pg pn : List Pg} (h : SS w W g vp pg vn pn) {i : Nat} {p : Pg} (hi : pg[i]? = some p) {k : Nat} {x : Wd} (hk : p.l[k]? = some x) (S : ByteArray) (hz : S.size ≤ 4000000) :
    SS w (W.setCell ⟨p.g, k * 4, none⟩ (.string S)) g vp (pg.set i { p with l := p.l.set k { x with s := S } }) vn pn := by
  have hf : Feet vp (pg.set i { p with l := p.l.set k { x with s := S } }) = Feet vp pg := by unfold Feet; rw [map_set_l Pg.g pg i p hi { p with l := p.l.set k { x with s := S } } rfl]
  have hm : p.g ∈ Feet vp pg := List.mem_append_right _ (List.mem_map_of_mem (List.mem_of_getElem? hi))
  have hlt := h.np _ (List.mem_append_left _ hm)
  have h2 := h.tx.set hi hk (x' := { x with s := S }) (j := 0) (u := .string S) (by omega) rfl hz
  exact ⟨h2, by rw [heap_set_other _ _ _ _ (by simp only; omega)]; exact h.bl, by rw [hf]; exact h.np, h.hg, h.hx.setCell (p := ⟨p.g, k * 4, none⟩) (h.tx.1.lts _ hm).1 _⟩
theorem SS.setN {w W : World} {g : Nat} {vp vn : Value} {pg pn : List Pg} (h : SS w W g vp pg vn pn) {i : Nat} {p : Pg} (hi : pn[i]? = some p) {k : Nat} {x : Wd} (hk : p.l[k]? = some x) (S : ByteArray) (hz : S.size ≤ 4000000) :
    SS w (W.setCell ⟨p.g, k * 4, none⟩ (.string S)) g vp pg vn (pn.set i { p with l := p.l.set k { x with s := S } }) := by
  have hf : Feet vn (pn.set i { p with l := p.l.set k { x with s := S } }) = Feet vn pn := by unfold Feet; rw [map_set_l Pg.g pn i p hi { p with l := p.l.set k { x with s := S } } rfl]
  have hm : p.g ∈ Feet vn pn := List.mem_append_right _ (List.mem_map_of_mem (List.mem_of_getElem? hi))
  have hlt := h.np _ (List.mem_append_right _ hm)
  have h2 := (h.tx.symm.set hi hk (x' := { x with s := S }) (j := 0) (u := .string S) (by omega) rfl hz).symm
  exact ⟨h2, by rw [heap_set_other _ _ _ _ (by simp only; omega)]; exact h.bl, by rw [hf]; exact h.np, h.hg, h.hx.setCell (p := ⟨p.g, k * 4, none⟩) (h.tx.2.1.lts _ hm).1 _⟩
theorem SS.p_at {w W : World} {g : Nat} {vp vn : Value} {pg pn : List Pg} (h : SS w W g vp pg vn pn) {i : Nat} (hi : i < pg.length) : ∃ b cap p, vp = .slice (some ⟨b, 0, none⟩) pg.length cap ∧ pg[i]? = some p ∧ PgOk W w.heap.size p ∧ W.cell? ⟨b, i, none⟩ = some (.slice (some ⟨p.g, 0, none⟩) p.l.length p.c) := by
  obtain ⟨b, cap, p, e1, _, e3, e4, e5⟩ := h.tx.1.at hi
  exact ⟨b, cap, p, e1, e3, e4, e5⟩
theorem SS.n_at {w W : World} {g : Nat} {vp vn : Value} {pg pn : List Pg} (h : SS w W g vp pg vn pn) {i : Nat} (hi : i < pn.length) : ∃ b cap p, vn = .slice (some ⟨b, 0, none⟩) pn.length cap ∧ pn[i]? = some p ∧ PgOk W w.heap.size p ∧ W.cell? ⟨b, i, none⟩ = some (.slice (some ⟨p.g, 0, none⟩) p.l.length p.c) := by
  obtain ⟨b, cap, p, e1, _, e3, e4, e5⟩ := h.tx.2.1.at hi
  exact ⟨b, cap, p, e1, e3, e4, e5⟩
def lls (pg pn : List Pg) : List (List Wd) := pg.map Pg.l ++ pn.map Pg.l
theorem TR.tx {W : World} {B : Nat} {v : Value} {pg : List Pg} (h : TR W B v pg) : TX W (pg.map Pg.sl) (pg.map Pg.l) := by
  refine ⟨by simp, fun i s l hs hl => ?_⟩
  rw [List.getElem?_map] at hs hl
  obtain ⟨p, hp, rfl⟩ := Option.map_eq_some_iff.1 hs
  obtain ⟨q, hq, rfl⟩ := Option.map_eq_some_iff.1 hl
  obtain rfl : p = q := Option.some.inj (hp.symm.trans hq)
  obtain ⟨a, _, b, c, d⟩ := h.2 p (List.mem_of_getElem? hp)
  refine ⟨⟨rfl, fun _ => ⟨p.g, 0, rfl, a.lt, fun k x hk j u hu => ?_⟩⟩, by omega, fun x hx => Nat.le_trans (d x hx) (by omega)⟩
  rw [Nat.zero_add]; exact a.cell hk hu
theorem TX.app {W : World} {a c : List Sl} {b d : List (List Wd)} (h : TX W a b) (k : TX W c d) : TX W (a ++ c) (b ++ d) := by
  refine ⟨by simp [h.1, k.1], fun i s l hs hl => ?_⟩
  rw [List.getElem?_append] at hs hl
  rw [h.1] at hs
  split at hs
  · next hi => rw [if_pos hi] at hl; exact h.2 i s l hs hl
  · next hi => rw [if_neg hi] at hl; exact k.2 _ s l hs hl
theorem scanP_le : ∀ (ll : List (List Wd)), (∀ l ∈ ll, l.length ≤ 1000) → (scanP ll).length ≤ ll.length * 1000
  | [], _ => by simp [scanP]
  | a :: t, h => by
    have e : scanP (a :: t) = scanW a ++ scanP t := by simp [scanP]
    rw [e, List.length_append, List.length_cons]
    have h1 := scanP_le t (fun l hl => h l (List.mem_cons_of_mem _ hl))
    have h2 := scanW_len a
    have h3 := h a (List.mem_cons_self ..)
    omega
theorem SS.form {w W : World} {g : Nat} {vp vn : Value} {pg pn : List Pg} (h : SS w W g vp pg vn pn) (h4 : pg.length ≤ 4) (h3 : pn.length ≤ 3) :
    ∃ A1 c1 A2 c2, vp = .slice A1 (pg.map Pg.sl).length c1 ∧ vn = .slice A2 (pn.map Pg.sl).length c2 ∧ SL slc 1 W A1 (pg.map Pg.sl).length (pg.map Pg.sl) ∧ SL slc 1 W A2 (pn.map Pg.sl).length (pn.map Pg.sl) ∧ TX W (pg.map Pg.sl ++ pn.map Pg.sl) (lls pg pn) ∧ (scanP (lls pg pn)).length ≤ 7000 ∧ ∀ l ∈ lls pg pn, ∀ x ∈ l, x.s.size ≤ 4000000 := by
  obtain ⟨A1, c1, e1, _, s1⟩ := OL.form slc_len h.tx.1.1
  obtain ⟨A2, c2, e2, _, s2⟩ := OL.form slc_len h.tx.2.1.1
  have hin : ∀ l ∈ lls pg pn, l.length ≤ 1000 ∧ ∀ x ∈ l, x.s.size ≤ 4000000 := fun l hl => by
    rcases List.mem_append.1 hl with hl | hl
    · obtain ⟨p, hp, rfl⟩ := List.mem_map.1 hl
      exact (h.tx.1.2 p hp).2.2.2
    · obtain ⟨p, hp, rfl⟩ := List.mem_map.1 hl
      exact (h.tx.2.1.2 p hp).2.2.2
  have hlen := scanP_le (lls pg pn) (fun l hl => (hin l hl).1)
  have hll : (lls pg pn).length = pg.length + pn.length := by simp [lls]
  exact ⟨A1, c1, A2, c2, e1, e2, s1, s2, h.tx.1.tx.app h.tx.2.1.tx, by omega, fun l hl => (hin l hl).2⟩
theorem SS.scan {w W : World} {g : Nat} {vp vn : Value} {pg pn : List Pg} (h : SS w W g vp pg vn pn) (h4 : pg.length ≤ 4) (h3 : pn.length ≤ 3) (hE : Env W) :
    Calls Tryd.prog 16 #[.agg #[vp, vn]] W (ScanPost W (scanP (lls pg pn))) := by
  obtain ⟨A1, c1, A2, c2, rfl, rfl, s1, s2, ht, hl, hs⟩ := h.form h4 h3
  exact scan_any W A1 A2 c1 c2 _ _ (lls pg pn) s1 s2 (by simp; omega) (by simp; omega) ht (by omega) hE
theorem SS.rscan {w W : World} {g : Nat} {vp vn : Value} {pg pn : List Pg} (h : SS w W g vp pg vn pn) (h4 : pg.length ≤ 4) (h3 : pn.length ≤ 3) :
    Calls Tryd.prog 17 #[.agg #[vp, vn]] W (ScanPost W (scanP (lls pg pn))) := by
  obtain ⟨A1, c1, A2, c2, rfl, rfl, s1, s2, ht, hl, hs⟩ := h.form h4 h3
  exact rscan_any W A1 A2 c1 c2 _ _ (lls pg pn) s1 s2 (by simp; omega) (by simp; omega) ht (by omega) hs
/-- The words up to the cursor, of which the first n hold the first n citations. -/
def citS (c : Int) : ByteArray := ⟨(textP (citOf c)).toArray⟩
def Dn (cs : List Int) (d : List Wd) (n : Nat) : Prop := n ≤ cs.length ∧ n ≤ d.length ∧ (n < cs.length → n = d.length) ∧ ∀ j c, j < n → cs[j]? = some c → ∃ x, d[j]? = some x ∧ x.s = citS c
theorem Dn.nil (cs : List Int) : Dn cs [] 0 := ⟨by omega, by simp, fun _ => rfl, fun j c h => by omega⟩
theorem Dn.keep {cs : List Int} {d : List Wd} {n : Nat} (h : Dn cs d n) (hn : ¬ n < cs.length) (x : Wd) : Dn cs (d ++ [x]) n :=
  ⟨h.1, by have := h.2.1; simp; omega, fun h2 => absurd h2 hn, fun j c hj hc => by
    obtain ⟨y, hy, e⟩ := h.2.2.2 j c hj hc
    exact ⟨y, by rw [List.getElem?_append_left (by have := h.2.1; omega)]; exact hy, e⟩⟩
theorem Dn.put {cs : List Int} {d : List Wd} {n : Nat} (h : Dn cs d n) {c : Int} (hc : cs[n]? = some c) (x : Wd) (hx : x.s = citS c) : Dn cs (d ++ [x]) (n + 1) := by
  have hn := (List.getElem?_eq_some_iff.1 hc).1
  have hd := h.2.2.1 hn
  refine ⟨hn, by simp; omega, fun _ => by simp; omega, fun j c' hj hc' => ?_⟩
  by_cases e : j = n
  · subst e
    obtain rfl := Option.some.inj (hc.symm.trans hc')
    exact ⟨x, by rw [hd]; simp, hx⟩
  · obtain ⟨y, hy, e⟩ := h.2.2.2 j c' (by omega) hc'
    exact ⟨y, by rw [List.getElem?_append_left (by have := h.2.1; omega)]; exact hy, e⟩
theorem scanW_append (a b : List Wd) : scanW (a ++ b) = scanW a ++ scanW b := by simp [scanW]
theorem scanP_flat (ll : List (List Wd)) : scanP ll = scanW ll.flatten := by
  induction ll with
  | nil => rfl
  | cons a t ih =>
    have e : scanP (a :: t) = scanW a ++ scanP t := by simp [scanP]
    rw [e, ih, List.flatten_cons, scanW_append]
theorem Dn.scan {cs : List Int} {d : List Wd} {n : Nat} (h : Dn cs d n) : ∀ m, m ≤ n → scanW (d.take m) = (cs.take m).map citOf := by
  intro m
  induction m with
  | zero => intro _; simp [scanW]
  | succ m ih =>
    intro hm
    obtain ⟨c, hc⟩ : ∃ c, cs[m]? = some c := ⟨_, List.getElem?_eq_getElem (by have := h.1; omega)⟩
    obtain ⟨x, hx, e⟩ := h.2.2.2 m c (by omega) hc
    rw [scanW_step d m x hx, ih (by omega), List.take_add_one, hc, e]
    have e2 : (citS c).data.toList = textP (citOf c) := by simp [citS]
    rw [e2, parse_text (citOf_ok c)]
    simp
/-- What the scans of the filled text begin with. -/
theorem Dn.list {cs : List Int} {pg pn : List Pg} {n : Nat} (h : Dn cs (pg.map Pg.l).flatten n) : n ≤ (scanP (lls pg pn)).length ∧ n ≤ cs.length ∧ ∀ j c, j < n → cs[j]? = some c → (scanP (lls pg pn))[j]? = some (citOf c) := by
  have e : scanP (lls pg pn) = (cs.take n).map citOf ++ (scanW ((pg.map Pg.l).flatten.drop n) ++ scanW (pn.map Pg.l).flatten) := by
    rw [scanP_flat, lls, List.flatten_append, scanW_append, ← List.append_assoc]
    congr 1
    rw [← h.scan n (Nat.le_refl _), ← scanW_append, List.take_append_drop]
  have hl : ((cs.take n).map citOf).length = n := by rw [List.length_map, List.length_take]; have := h.1; omega
  refine ⟨by rw [e, List.length_append]; omega, h.1, fun j c hj hc => ?_⟩
  rw [e, List.getElem?_append_left (by omega), List.getElem?_map, List.getElem?_take, if_pos hj, hc]; rfl
theorem take_set_l (pg : List Pg) (i : Nat) (q : Pg) : ((pg.set i q).map Pg.l).take i = (pg.map Pg.l).take i := by
  rw [List.map_set, List.take_set_of_le (Nat.le_refl _)]
theorem take_next (pg : List Pg) (i : Nat) (p : Pg) (hi : pg[i]? = some p) : ((pg.map Pg.l).take (i + 1)).flatten = ((pg.map Pg.l).take i).flatten ++ p.l := by
  rw [List.take_add_one, List.getElem?_map, hi]; simp
theorem take_put (l : List Wd) (k : Nat) (x y : Wd) (hk : l[k]? = some x) : (l.set k y).take (k + 1) = l.take k ++ [y] := by
  have hl := (List.getElem?_eq_some_iff.1 hk).1
  rw [List.take_add_one, List.getElem?_set_self hl, List.take_set_of_le (Nat.le_refl _)]; rfl
theorem take_same (l : List Wd) (k : Nat) (x : Wd) (hk : l[k]? = some x) : l.take (k + 1) = l.take k ++ [x] := by rw [List.take_add_one, hk]; rfl
end Go.Proofs.YtbfogchdeijedaaDoor
