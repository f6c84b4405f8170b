/- Rows of rows of words, apart from each other: Paras and Notes. -/
import Derived.Test.YtbfogchdeijedaaDoorGr
namespace Go.Proofs.YtbfogchdeijedaaDoor
open Go Go.RowKit

/-- A paragraph: its block, its capacity, its words. -/
structure Pg where
  g : Nat
  c : Nat
  l : List Wd
def Pg.sl (p : Pg) : Sl := ⟨some ⟨p.g, 0, none⟩, p.l.length, p.c⟩
def PgOk (W : World) (B : Nat) (p : Pg) : Prop := WRow W p.g p.l ∧ B ≤ p.g ∧ 1 ≤ p.l.length ∧ p.l.length ≤ 1000 ∧ ∀ v ∈ p.l, v.s.size ≤ 4000000
/-- The headers lie in a row of the call's own, each paragraph in a block of its own. -/
def TR (W : World) (B : Nat) (v : Value) (pg : List Pg) : Prop := OL slc 1 W B 44 v (pg.map Pg.sl) ∧ ∀ p ∈ pg, PgOk W B p
def Feet (v : Value) (pg : List Pg) : List Nat := v.ownBlock.toList ++ pg.map Pg.g
theorem OL.lts {α : Type} {cf : α → List Value} {sz : Nat} {w : World} {B : Nat} {e : TypeId} {v : Value} {l : List α} (h : OL cf sz w B e v l) : ∀ k, v.ownBlock = some k → B ≤ k ∧ k < w.heap.size := World.ownsRow.lt h
theorem OL.keep {α : Type} {cf : α → List Value} {sz : Nat} {w w' : World} {B : Nat} {e : TypeId} {v : Value} {l : List α} (h : OL cf sz w B e v l) (hk : ∀ k, v.ownBlock = some k → w'.heap[k]? = w.heap[k]?) : OL cf sz w' B e v l := by
  refine ⟨h.1, ?_⟩
  rcases h.2 with h2 | ⟨g, cap, cur, h1, h2, h3, h4⟩
  · exact .inl h2
  · exact .inr ⟨g, cap, cur, h1, h2, by rw [hk g (by rw [h1]; rfl)]; exact h3, h4⟩
theorem TR.lts {W : World} {B : Nat} {v : Value} {pg : List Pg} (h : TR W B v pg) : ∀ k ∈ Feet v pg, B ≤ k ∧ k < W.heap.size := by
  intro k hk
  rcases List.mem_append.1 hk with hk | hk
  · exact OL.lts h.1 k (by simpa using hk)
  · obtain ⟨p, hp, rfl⟩ := List.mem_map.1 hk
    exact ⟨(h.2 p hp).2.1, (h.2 p hp).1.lt⟩
theorem TR.keep {W W' : World} {B : Nat} {v : Value} {pg : List Pg} (h : TR W B v pg) (hk : ∀ k ∈ Feet v pg, W'.heap[k]? = W.heap[k]?) : TR W' B v pg := by
  refine ⟨OL.keep h.1 (fun k e => hk k (List.mem_append_left _ (by simpa using e))), fun p hp => ?_⟩
  obtain ⟨a, b⟩ := h.2 p hp
  exact ⟨a.same (hk p.g (List.mem_append_right _ (List.mem_map_of_mem hp))), b⟩
theorem TR.ext {W W' : World} {B : Nat} {v : Value} {pg : List Pg} (h : TR W B v pg) (hx : Ext W W') : TR W' B v pg := h.keep (fun k hk => hx.block k (h.lts k hk).2)
theorem TR.nil (W : World) (B : Nat) : TR W B (.slice none 0 0) [] := ⟨OL.nil W B 44, fun p hp => by cases hp⟩
theorem TR.rows {W : World} {B : Nat} {v : Value} {pg : List Pg} (h : TR W B v pg) : PRows W (pg.map Pg.sl) (pg.map Pg.l) := by
  refine ⟨by simp, fun i s l hs hl => ?_⟩
  rw [List.getElem?_map] at hs hl
  obtain ⟨p, hp, rfl⟩ := Option.map_eq_some_iff.1 hs
  obtain ⟨q, hq, rfl⟩ := Option.map_eq_some_iff.1 hl
  obtain rfl : p = q := Option.some.inj (hp.symm.trans hq)
  obtain ⟨a, _, b, c, _⟩ := h.2 p (List.mem_of_getElem? hp)
  exact ⟨p.g, p.c, rfl, a, b, c⟩
/-- Two rows of rows, all of whose blocks differ. -/
def TXs (W : World) (B : Nat) (v : Value) (pg : List Pg) (v' : Value) (pn : List Pg) : Prop := TR W B v pg ∧ TR W B v' pn ∧ (Feet v pg ++ Feet v' pn).Nodup
theorem TXs.symm {W : World} {B : Nat} {v v' : Value} {pg pn : List Pg} (h : TXs W B v pg v' pn) : TXs W B v' pn v pg := ⟨h.2.1, h.1, (List.perm_append_comm.nodup_iff).1 h.2.2⟩
theorem TXs.keep {W W' : World} {B : Nat} {v v' : Value} {pg pn : List Pg} (h : TXs W B v pg v' pn) (hk : ∀ k, B ≤ k → k < W.heap.size → W'.heap[k]? = W.heap[k]?) : TXs W' B v pg v' pn :=
  ⟨h.1.keep (fun k e => hk k (h.1.lts k e).1 (h.1.lts k e).2), h.2.1.keep (fun k e => hk k (h.2.1.lts k e).1 (h.2.1.lts k e).2), h.2.2⟩
theorem TXs.ext {W W' : World} {B : Nat} {v v' : Value} {pg pn : List Pg} (h : TXs W B v pg v' pn) (hx : Ext W W') : TXs W' B v pg v' pn := h.keep (fun k _ hk => hx.block k hk)
theorem TXs.nil (W : World) (B : Nat) : TXs W B (.slice none 0 0) [] (.slice none 0 0) [] := ⟨TR.nil W B, TR.nil W B, by simp [Feet, Value.ownBlock]⟩
theorem TR.at {W : World} {B : Nat} {v : Value} {pg : List Pg} (h : TR W B v pg) {i : Nat} (hi : i < pg.length) : ∃ b cap p, v = .slice (some ⟨b, 0, none⟩) pg.length cap ∧ v.ownBlock = some b ∧ pg[i]? = some p ∧ PgOk W B p ∧ W.cell? ⟨b, i, none⟩ = some (.slice (some ⟨p.g, 0, none⟩) p.l.length p.c) := by
  obtain ⟨A, c, e, _, hh⟩ := own_form h.1
  rw [List.length_map] at e
  obtain ⟨p, hp⟩ : ∃ p, pg[i]? = some p := ⟨_, List.getElem?_eq_getElem hi⟩
  rcases hh with ⟨_, hn, _⟩ | ⟨g, rfl, _, _, hc⟩
  · rw [List.length_map] at hn; omega
  · refine ⟨g, c, p, e, by rw [e]; rfl, hp, h.2 p (List.mem_of_getElem? hp), hc i _ ?_⟩
    have := gcells_at slc_len (pg.map Pg.sl) i p.sl (by rw [List.getElem?_map, hp]; rfl) 0 (by omega)
    rw [Nat.mul_one, Nat.add_zero] at this
    rw [this]; rfl
theorem WRow.own {W : World} {B : Nat} {A : Option Addr} {c : Nat} {l : List Wd} (h : OL wcf 4 W B 46 (.slice A l.length c) l) (h1 : 1 ≤ l.length) : ∃ g, A = some ⟨g, 0, none⟩ ∧ B ≤ g ∧ g < W.heap.size ∧ WRow W g l := by
  rcases h.2 with ⟨_, h2⟩ | ⟨g, cap, cur, e, hb, hg, hn, _, _, ht⟩
  · omega
  · simp only [Value.slice.injEq] at e
    refine ⟨g, e.1, hb, lt_of_block hg, cur, 46, hg, fun k v hk j u hu => ?_⟩
    have hj : j < 4 := by have := (List.getElem?_eq_some_iff.1 hu).1; simpa [wcf] using this
    have h2 := (gcells_at wcf_len l k v hk j hj).trans hu
    rw [← ht] at h2
    rw [List.getElem?_take] at h2
    split at h2
    · simpa using h2
    · cases h2
/-- append of a fresh paragraph to the first row. -/
theorem TXs.append {W0 X : World} {B : Nat} {v v' : Value} {pg pn : List Pg} (h : TXs W0 B v pg v' pn) (p : Pg) (b : Nat) (hx : Ext W0 X) (hg : W0.heap.size ≤ p.g) (hp : WRow X p.g p.l) (h1 : 1 ≤ p.l.length) (h2 : p.l.length ≤ 1000) (h3 : ∀ v ∈ p.l, v.s.size ≤ 4000000) (hb : b = X.heap.size)
    (hm : pg.length ≤ 10000) (hB : B ≤ W0.heap.size) :
    ∃ A' c' w', (Builtin.append_ #[40, 40] 40 #[v, .slice (some ⟨b, 0, none⟩) 1 1]).run Tryd.prog (X.alloc (.cells #[.slice (some ⟨p.g, 0, none⟩) p.l.length p.c] 44)) = .ok (.slice A' (pg.length + 1) c') w' ∧
      TXs w' B (.slice A' (pg.length + 1) c') (pg ++ [p]) v' pn ∧ Below B X w' := by
  subst hb
  obtain ⟨Y, hY⟩ : ∃ Y, Y = X.alloc (.cells #[.slice (some ⟨p.g, 0, none⟩) p.l.length p.c] 44) := ⟨_, rfl⟩
  have hXY : Ext X Y := by rw [hY]; exact (Ext.refl X).alloc _
  have hYs : Y.heap.size = X.heap.size + 1 := by rw [hY]; simp
  have hpl := hp.lt
  have hso := SL.one (cf := slc) (sz := 1) X p.sl #[.slice (some ⟨p.g, 0, none⟩) p.l.length p.c] rfl 44
  rw [← hY] at hso ⊢
  have hY2 := h.ext (hx.trans hXY)
  obtain ⟨_, hs⟩ := hso
  obtain ⟨A', c', w', r1, r2, r3, r4, r5⟩ := run_append_src5 (P := Tryd.prog) (t := 40) (e := 44) (size := 1) (bytes := 24) (base := B) Tryd.underlying40 info44 rfl (by omega) hY2.1.1 (A := some ⟨X.heap.size, 0, none⟩) (m := 1) (c := 1) (news := gcells slc [p.sl]) (gcells_len slc_len [p.sl])
    (fun _ => ⟨X.heap.size, 0, rfl, fun j u hu => by
      obtain ⟨b, off, e, _, hc⟩ := hs (by omega)
      simp only [Option.some.injEq, Addr.mk.injEq] at e
      obtain ⟨rfl, rfl, _⟩ := e
      obtain rfl : j = 0 := by
        have := (List.getElem?_eq_some_iff.1 hu).1
        simp [gcells, slc] at this; exact this
      have := hc 0 p.sl rfl 0 u (by simpa [gcells] using hu)
      simpa using this⟩)
    (gcells_one slc_one [p.sl]) (by simp [maxLen]; omega) (by simp; omega) (by omega)
  rw [List.length_map] at r1 r2 r5
  have hsz : Y.heap.size ≤ w'.heap.size := (r3 B (Nat.le_refl _)).size
  have hkeep : ∀ k, k < Y.heap.size → v.ownBlock ≠ some k → w'.heap[k]? = Y.heap[k]? := fun k hk hne => r4 k hk (fun a e => hne (by rw [e]; rfl))
  have hnd := hY2.2.2
  have hl1 := hx.lt
  have hlt1 : ∀ k ∈ Feet v pg, B ≤ k ∧ k < W0.heap.size := h.1.lts
  have hlt2 : ∀ k ∈ Feet v' pn, B ≤ k ∧ k < W0.heap.size := h.2.1.lts
  refine ⟨A', c', w', r1, ⟨⟨?_, fun q hq => ?_⟩, hY2.2.1.keep (fun k hk => hkeep k (by have := hlt2 k hk; omega) (fun e => ?_)), ?_⟩, ?_⟩
  · unfold OL
    rw [List.map_append, List.length_append, gcells_append, List.length_map]
    exact r2
  · rcases List.mem_append.1 hq with hq | hq
    · obtain ⟨a, bb⟩ := hY2.1.2 q hq
      refine ⟨a.same (hkeep q.g a.lt (fun e => ?_)), bb⟩
      have := (List.nodup_append.1 (List.nodup_append.1 hnd).1).2.2 q.g (by rw [e]; simp) q.g (List.mem_map_of_mem hq)
      exact this rfl
    · obtain rfl : q = p := by simpa using hq
      refine ⟨(hp.ext hXY).same (hkeep q.g (by omega) (fun e => ?_)), by omega, h1, h2, h3⟩
      have := OL.lts h.1.1 q.g e
      omega
  · exact (List.nodup_append.1 hnd).2.2 k (List.mem_append_left _ (by rw [e]; simp)) k hk rfl
  · have hin : ∀ k ∈ pg.map Pg.g ++ Feet v' pn, k < W0.heap.size := fun k hk => by
      rcases List.mem_append.1 hk with hk | hk
      · exact (hlt1 k (List.mem_append_right _ hk)).2
      · exact (hlt2 k hk).2
    have hsub : (pg.map Pg.g ++ Feet v' pn).Nodup := by
      simp only [Feet] at hnd ⊢
      rw [List.append_assoc] at hnd
      exact (List.nodup_append.1 hnd).2.1
    have hperm : (pg.map Pg.g ++ [p.g] ++ Feet v' pn).Perm (p.g :: (pg.map Pg.g ++ Feet v' pn)) := by
      rw [List.append_assoc]; exact List.perm_middle
    have hnew : (pg.map Pg.g ++ [p.g] ++ Feet v' pn).Nodup := hperm.nodup_iff.2 (List.nodup_cons.2 ⟨fun e => by have := hin _ e; omega, hsub⟩)
    have e2 : Feet (.slice A' (pg.length + 1) c') (pg ++ [p]) ++ Feet v' pn = (Value.slice A' (pg.length + 1) c').ownBlock.toList ++ (pg.map Pg.g ++ [p.g] ++ Feet v' pn) := by simp [Feet]
    rw [e2]
    rcases r5 with e | e
    · rw [e]
      rcases ho : v.ownBlock with _ | k0
      · simpa using hnew
      · refine List.nodup_cons.2 ⟨fun hm2 => ?_, hnew⟩
        have hk0 := hlt1 k0 (by simp [Feet, ho])
        rcases List.mem_cons.1 (hperm.mem_iff.1 hm2) with h3 | h3
        · omega
        · simp only [Feet, ho] at hnd
          rw [List.append_assoc] at hnd
          exact (List.nodup_append.1 hnd).2.2 k0 (by simp) k0 h3 rfl
    · rw [e]
      refine List.nodup_cons.2 ⟨fun hm2 => ?_, hnew⟩
      rcases List.mem_cons.1 (hperm.mem_iff.1 hm2) with h3 | h3
      · omega
      · have := hin _ h3; omega
  · exact Below.trans (Below.mono hXY (by omega)) (r3 B (Nat.le_refl _))
/-- A store into a word of the first row's paragraph i. -/
theorem TXs.set {W : World} {B : Nat} {v v' : Value} {pg pn : List Pg} (h : TXs W B v pg v' pn) {i : Nat} {p : Pg} (hi : pg[i]? = some p) {k : Nat} {x x' : Wd} (hk : p.l[k]? = some x) {j : Nat} {u : Value} (hj : j < 4) (hv : wcf x' = (wcf x).set j u) (hz : x'.s.size ≤ 4000000) :
    TXs (W.setCell ⟨p.g, k * 4 + j, none⟩ u) B v (pg.set i { p with l := p.l.set k x' }) v' pn := by
  obtain ⟨h1, h2, h3⟩ := h
  have hmem := List.mem_of_getElem? hi
  have hil := (List.getElem?_eq_some_iff.1 hi).1
  have eg : (pg.set i { p with l := p.l.set k x' }).map Pg.g = pg.map Pg.g := by
    rw [List.map_set]
    apply List.ext_getElem?
    intro n
    rw [List.getElem?_set]
    split
    · next hn => subst hn; rw [if_pos (by simpa using hil), List.getElem?_map, hi]; rfl
    · rfl
  have es : (pg.set i { p with l := p.l.set k x' }).map Pg.sl = pg.map Pg.sl := by
    rw [List.map_set]
    apply List.ext_getElem?
    intro n
    rw [List.getElem?_set]
    split
    · next hn => subst hn; rw [if_pos (by simpa using hil), List.getElem?_map, hi]; simp [Pg.sl]
    · rfl
  have hn1 := List.nodup_append.1 h3
  have hn2 := List.nodup_append.1 hn1.1
  have ho : OL slc 1 (W.setCell ⟨p.g, k * 4 + j, none⟩ u) B 44 v (pg.map Pg.sl) := by
    refine OL.keep h1.1 (fun q e => heap_set_other _ _ _ _ (fun e2 => ?_))
    simp only at e2
    exact hn2.2.2 q (by rw [e]; simp) q (by rw [← e2]; exact List.mem_map_of_mem hmem) rfl
  refine ⟨⟨by rw [es]; exact ho, fun q hq => ?_⟩, h2.keep (fun q hq => heap_set_other _ _ _ _ (fun e2 => ?_)), by simpa only [Feet, eg] using h3⟩
  · obtain ⟨n, hn⟩ := List.getElem?_of_mem hq
    rw [List.getElem?_set] at hn
    split at hn
    · obtain rfl := Option.some.inj hn
      obtain ⟨a, b1, b2, b3, b4⟩ := h1.2 p hmem
      refine ⟨a.set hk hj hv, b1, by simpa using b2, by simpa using b3, fun v hv2 => ?_⟩
      rcases List.mem_or_eq_of_mem_set hv2 with h9 | rfl
      · exact b4 v h9
      · exact hz
    · next hne =>
      have hqm := List.mem_of_getElem? hn
      obtain ⟨a, b⟩ := h1.2 q hqm
      refine ⟨a.same (heap_set_other _ _ _ _ (fun e2 => ?_)), b⟩
      simp only at e2
      have hnl := (List.getElem?_eq_some_iff.1 hn).1
      have hpw := List.pairwise_iff_getElem.1 hn2.2.1
      have e3 : (pg.map Pg.g)[i]'(by simpa using hil) = (pg.map Pg.g)[n]'(by simpa using hnl) := by
        simp only [List.getElem_map]
        rw [(List.getElem?_eq_some_iff.1 hi).2, (List.getElem?_eq_some_iff.1 hn).2]; exact e2
      rcases Nat.lt_or_gt_of_ne hne with h | h
      · exact hpw i n (by simpa using hil) (by simpa using hnl) h e3
      · exact hpw n i (by simpa using hnl) (by simpa using hil) h e3.symm
  · simp only at e2
    exact hn1.2.2 p.g (List.mem_append_right _ (List.mem_map_of_mem hmem)) p.g (by rw [e2]; exact hq) rfl
end Go.Proofs.YtbfogchdeijedaaDoor
