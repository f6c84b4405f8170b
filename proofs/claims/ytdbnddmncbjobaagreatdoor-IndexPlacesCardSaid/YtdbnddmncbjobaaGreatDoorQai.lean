/- The contract of Text. -/
import Derived.Test.YtdbnddmncbjobaaGreatDoorQah
import Derived.Deep.RegionLaw
import Derived.Deep.QuietTactic
import Derived.BigQuiet
namespace Go.Proofs.YtdbnddmncbjobaaGreatDoor
section
open Go Go.RowKit

theorem gstep_append_run {P : Program} {w : World} {ops : Array Oper} {o : Oper} {a : Act} {K : Act → World → Prop} {Q : Exit → Act → World → Prop} {E : Prop} {s x : Operand} {t : TypeId} {vs vx v' : Value} {w' : World}
    (hr : (Builtin.append_ #[t, t] t #[vs, vx]).run P w = .ok v' w') (hgd : o.guard = none)
    (ho : o.op = .call { callee := .builtin .append, args := #[s, x], argTypes := #[t, t] }) (hty : o.type = t) (hs : a.eval s = vs) (hx : a.eval x = vx)
    (h : K (a.put o.dst v') w') : if Region.wanted o (yielded ops a.tmps) = true then Oper.wp P o a w K Q else E := by
  have hw : Region.wanted o (yielded ops a.tmps) = true := by simp [Region.wanted, hgd]
  rw [if_pos hw]
  unfold Oper.wp execOp
  simp only [ho, hty, resolve, invoke, builtin, Sem.run_bind, Sem.run_pure, Result.andThen_ok, List.map_toArray, List.map_cons, List.map_nil, hs, hx, hr]
  exact h
theorem pick_fix (A : Option Addr) (c : Nat) (l : List Int) (i m : Nat) (w : World) (ii mm : Int) (hi : ii = (i : Int)) (hmm : mm = (m : Int)) (hm : 1 ≤ m) (hm2 : m ≤ 1000000000) (hb : ∀ n ∈ l, -9223372036854775808 ≤ n ∧ n ≤ 9223372036854775807) (h : SL icf 1 w A l.length l) :
    Calls Tryz.prog 77 #[.slice A l.length c, .int .i64 ii, .int .i64 mm] w fun e w' => e = .returned (.int .i64 (pkI l i m)) ∧ w = w' := by
  subst hi; subst hmm
  exact pick_any A c l i m w hm hm2 hb h
/-- The state of Text: t's cells, its rows. -/
def TS (w W : World) (vp : Value) (pg : List Pq) (vn : Value) (pn : List Pq) : Prop := TXs W (w.heap.size + 2) vp pg vn pn ∧ W.heap[w.heap.size + 1]? = some (.cells #[vp, vn] 53 (0, 0)) ∧ W.heap[w.heap.size]? = some (.cells #[.slice none 0 0, .slice none 0 0] 53 (0, 0)) ∧ Ext w W
theorem TS.size {w W : World} {vp vn : Value} {pg pn : List Pq} (h : TS w W vp pg vn pn) : w.heap.size + 2 ≤ W.heap.size := lt_of_block h.2.1
theorem TS.ext {w W W' : World} {vp vn : Value} {pg pn : List Pq} (h : TS w W vp pg vn pn) (hx : Ext W W') : TS w W' vp pg vn pn := by
  have hs := h.size
  exact ⟨h.1.ext hx, (hx.block _ (by omega)).trans h.2.1, (hx.block _ (by omega)).trans h.2.2.1, h.2.2.2.trans hx⟩
theorem TS.c0 {w W : World} {vp vn : Value} {pg pn : List Pq} (h : TS w W vp pg vn pn) : W.cell? ⟨w.heap.size + 1, 0, none⟩ = some vp := by rw [cell_of_row W _ _ _ 53 (0, 0) h.2.1]; rfl
theorem TS.c1 {w W : World} {vp vn : Value} {pg pn : List Pq} (h : TS w W vp pg vn pn) : W.cell? ⟨w.heap.size + 1, 1, none⟩ = some vn := by rw [cell_of_row W _ _ _ 53 (0, 0) h.2.1]; rfl
theorem TS.f0 {w W : World} {vp vn : Value} {pg pn : List Pq} (h : TS w W vp pg vn pn) (i : Nat) : W.frozen? ⟨w.heap.size + 1, i, none⟩ = false := frozen_of_row W _ i _ 53 h.2.1
theorem TS.g0 {w W : World} {vp vn : Value} {pg pn : List Pq} (h : TS w W vp pg vn pn) (i : Nat) : W.frozen? ⟨w.heap.size, i, none⟩ = false := frozen_of_row W _ i _ 53 h.2.2.1
theorem TS.store {w W : World} {vp vn v0 v1 u : Value} {pg pn : List Pq} (hr : TXs W (w.heap.size + 2) vp pg vn pn) (ht : W.heap[w.heap.size + 1]? = some (.cells #[v0, v1] 53 (0, 0))) (hr2 : W.heap[w.heap.size]? = some (.cells #[.slice none 0 0, .slice none 0 0] 53 (0, 0))) (hx : Ext w W) (i : Nat) (e : (#[v0, v1] : Array Value).setIfInBounds i u = #[vp, vn]) :
    TS w (W.setCell ⟨w.heap.size + 1, i, none⟩ u) vp pg vn pn := by
  refine ⟨hr.keep (fun k h1 _ => heap_set_other _ _ _ _ (by simp only; omega)), ?_, (heap_set_other _ _ _ _ (by simp only; omega)).trans hr2, hx.setCell (by simp only; omega) _⟩
  simp [World.setCell, Array.getElem?_modify, ht, e]
theorem TS.app0 {w W0 X : World} {vp vn : Value} {pg pn : List Pq} (h : TS w W0 vp pg vn pn) (p : Pq) (b : Nat) (hx : Ext W0 X) (hg : W0.heap.size ≤ p.g) (hp : WRow X p.g p.l) (h1 : 1 ≤ p.l.length) (h2 : p.l.length ≤ 1000) (h3 : p.l.length ≤ p.c ∧ ∀ v ∈ p.l, OkW v) (hb : b = X.heap.size) (hm : pg.length ≤ 10000) :
    ∃ A' c' w', (Builtin.append_ #[51, 51] 51 #[vp, .slice (some ⟨b, 0, none⟩) 1 1]).run Tryz.prog (X.alloc (.cells #[.slice (some ⟨p.g, 0, none⟩) p.l.length p.c] 54)) = .ok (.slice A' (pg.length + 1) c') w' ∧
      (w'.cell? ⟨w.heap.size + 1, 0, none⟩ = some vp ∧ w'.frozen? ⟨w.heap.size + 1, 0, none⟩ = false) ∧ TS w (w'.setCell ⟨w.heap.size + 1, 0, none⟩ (.slice A' (pg.length + 1) c')) (.slice A' (pg.length + 1) c') (pg ++ [p]) vn pn := by
  obtain ⟨A', c', w', r1, r2, r3⟩ := h.1.append p b hx hg hp h1 h2 h3 hb hm h.size
  have hX := h.ext hx
  have k1 := (r3.block (w.heap.size + 1) (by omega)).trans hX.2.1
  have k2 := (r3.block w.heap.size (by omega)).trans hX.2.2.1
  exact ⟨A', c', w', r1, ⟨by rw [cell_of_row w' _ _ _ 53 (0, 0) k1]; rfl, frozen_of_row w' _ 0 _ 53 k1⟩, TS.store r2 k1 k2 (Below.trans hX.2.2.2 (Below.mono r3 (by omega))) 0 rfl⟩
theorem TS.app1 {w W0 X : World} {vp vn : Value} {pg pn : List Pq} (h : TS w W0 vp pg vn pn) (p : Pq) (b : Nat) (hx : Ext W0 X) (hg : W0.heap.size ≤ p.g) (hp : WRow X p.g p.l) (h1 : 1 ≤ p.l.length) (h2 : p.l.length ≤ 1000) (h3 : p.l.length ≤ p.c ∧ ∀ v ∈ p.l, OkW v) (hb : b = X.heap.size) (hm : pn.length ≤ 10000) :
    ∃ A' c' w', (Builtin.append_ #[51, 51] 51 #[vn, .slice (some ⟨b, 0, none⟩) 1 1]).run Tryz.prog (X.alloc (.cells #[.slice (some ⟨p.g, 0, none⟩) p.l.length p.c] 54)) = .ok (.slice A' (pn.length + 1) c') w' ∧
      (w'.cell? ⟨w.heap.size + 1, 1, none⟩ = some vn ∧ w'.frozen? ⟨w.heap.size + 1, 1, none⟩ = false) ∧ TS w (w'.setCell ⟨w.heap.size + 1, 1, none⟩ (.slice A' (pn.length + 1) c')) vp pg (.slice A' (pn.length + 1) c') (pn ++ [p]) := by
  obtain ⟨A', c', w', r1, r2, r3⟩ := h.1.symm.append p b hx hg hp h1 h2 h3 hb hm h.size
  have hX := h.ext hx
  have k1 := (r3.block (w.heap.size + 1) (by omega)).trans hX.2.1
  have k2 := (r3.block w.heap.size (by omega)).trans hX.2.2.1
  exact ⟨A', c', w', r1, ⟨by rw [cell_of_row w' _ _ _ 53 (0, 0) k1]; rfl, frozen_of_row w' _ 1 _ 53 k1⟩, TS.store r2.symm k1 k2 (Below.trans hX.2.2.2 (Below.mono r3 (by omega))) 1 rfl⟩
theorem TS.setP {w W : World} {vp vn : Value} {pg pn : List Pq} (h : TS w W vp pg vn pn) {i : Nat} {p : Pq} (hi : pg[i]? = some p) {k : Nat} {x : Wd} (hk : p.l[k]? = some x) (note : Int) :
    TS w (W.setCell ⟨p.g, k * 4 + 3, none⟩ (.int .i64 note)) vp (pg.set i { p with l := p.l.set k { x with nt := note } }) vn pn := by
  have hB := (h.1.1.2 p (List.mem_of_getElem? hi)).2.1
  exact ⟨h.1.set hi hk (by omega) rfl ((h.1.1.2 p (List.mem_of_getElem? hi)).2.2.2.2.2 x (List.mem_of_getElem? hk)), (heap_set_other _ _ _ _ (by simp only; omega)).trans h.2.1, (heap_set_other _ _ _ _ (by simp only; omega)).trans h.2.2.1, h.2.2.2.setCell (by simp only; omega) _⟩
def RefAt (w : World) (m i hb : Nat) (vp vn : Value) (pg pn : List Pq) (p : Pq) (n : Nat) (note : Int) (later : Bool) (e : Ending) (W' : World) : Prop := ∃ (b : Bool) (pg' : List Pq), e = .returned (.bool b) ∧ (W'.cell? ⟨w.heap.size + 1, 0, none⟩ = some vp ∧ W'.cell? ⟨w.heap.size + 1, 1, none⟩ = some vn ∧ W'.cell? ⟨hb, i, none⟩ = some (.slice (some ⟨p.g, 0, none⟩) p.l.length p.c)) ∧ pg'.length = m ∧ TS w W' vp pg' vn pn ∧
  (b = false → pg' = pg) ∧ (b = true → later = false ∧ fromGo p.l 0 0 < p.l.length ∧ ∃ v, p.l[fromGo p.l 0 0 + n % (p.l.length - fromGo p.l 0 0)]? = some v ∧ pg'.map Pq.l = (pg.map Pq.l).set i (p.l.set (fromGo p.l 0 0 + n % (p.l.length - fromGo p.l 0 0)) { v with nt := note }))
theorem refer_at (w W : World) (vp vn : Value) (pg pn : List Pq) (h : TS w W vp pg vn pn) (i hb : Nat) (p : Pq) (hi : pg[i]? = some p) (ho : vp.ownBlock = some hb) (hc : W.cell? ⟨hb, i, none⟩ = some (.slice (some ⟨p.g, 0, none⟩) p.l.length p.c)) (n : Nat) (hn : n ≤ 1000000) (note : Int) (later : Bool) :
    Calls Tryz.prog 79 #[.slice (some ⟨p.g, 0, none⟩) p.l.length p.c, .int .i64 n, .int .i64 note, .bool later] W (RefAt w pg.length i hb vp vn pg pn p n note later) := by
  obtain ⟨hr, hB, _, h4, _⟩ := h.1.1.2 p (List.mem_of_getElem? hi)
  refine (refer_any W p.g p.c p.l n note later hr h4 hn).mono ?_
  rintro e W' (⟨rfl, rfl, _⟩ | ⟨v, hv, rfl, rfl, hl, hf⟩)
  · exact ⟨false, pg, rfl, ⟨h.c0, h.c1, hc⟩, rfl, h, fun _ => rfl, fun h => by cases h⟩
  · have h2 := h.setP hi hv note
    refine ⟨true, _, rfl, ⟨h2.c0, h2.c1, ?_⟩, by simp, h2, fun h => by (cases h), fun _ => ⟨hl, hf, v, hv, by rw [List.map_set]⟩⟩
    have hne : p.g ≠ hb := fun e => by
      have h5 := (List.nodup_append.1 (List.nodup_append.1 h.1.2.2).1).2.2 hb (by rw [ho]; simp) p.g (List.mem_map_of_mem (List.mem_of_getElem? hi))
      exact h5 e.symm
    rw [World.cell?_of_block (heap_set_other W ⟨p.g, _, none⟩ (.int .i64 note) hb hne)]
    exact hc
/-- A reference to a further note, and the note. -/
theorem okT_refer {ps notes : List (List Wd)} (h : OkT ⟨ps, notes⟩) {p : Nat} {l : List Wd} (hp : ps[p]? = some l) (hlater : (ps.drop (p + 1)).any hasNote = false) (hf : fromGo l 0 0 < l.length) {v : Wd} {n : Nat} {note : Int} (hnote : note = (notes.length : Int) + 1)
    (hv : l[fromGo l 0 0 + n % (l.length - fromGo l 0 0)]? = some v) {q : List Wd} (h1 : 1 ≤ q.length) (h12 : q.length ≤ 12) (hq : ∀ w ∈ q, OkN w) (hn3 : notes.length + 1 ≤ 3) :
    OkT ⟨ps.set p (l.set (fromGo l 0 0 + n % (l.length - fromGo l 0 0)) { v with nt := note }), notes ++ [q]⟩ := by
  obtain ⟨k, hk⟩ : ∃ k, k = fromGo l 0 0 + n % (l.length - fromGo l 0 0) := ⟨_, rfl⟩
  have hm : referG l n (notes.length + 1) false = some (l.set k { v with nt := note }) := by
    unfold referG
    simp only [Bool.false_or]
    rw [if_neg (by simpa using hf), ← hk]
    congr 1
    rw [← hk] at hv
    apply List.ext_getElem?
    intro j
    rw [List.getElem?_modify, List.getElem?_set]
    by_cases hj : k = j
    · subst hj
      rw [if_pos rfl, if_pos (List.getElem?_eq_some_iff.1 hv).1, hv, hnote]
      simp
    · rw [if_neg hj]; simp [hj]
  rw [← hk]
  obtain ⟨_, g2, g3, g4⟩ := referG_ok hm (by omega)
  have hpl := (List.getElem?_eq_some_iff.1 hp).1
  have hlm := List.mem_of_getElem? hp
  have e : ps = ps.take p ++ l :: ps.drop (p + 1) := by rw [← dwl' ps hp, List.take_append_drop]
  have es : ps.set p (l.set k { v with nt := note }) = ps.take p ++ l.set k { v with nt := note } :: ps.drop (p + 1) := by
    rw [List.set_eq_take_append_cons_drop, if_pos hpl]
  have hmem : ∀ x ∈ ps.set p (l.set k { v with nt := note }), x ∈ ps ∨ x = l.set k { v with nt := note } := fun x hx => (List.mem_or_eq_of_mem_set hx)
  refine ⟨⟨fun x hx => ?_, fun x hx w hw => ?_⟩, by simpa using h.np, by simpa using hn3, fun x hx => ?_, fun x hx => ?_, ?_⟩
  · rcases hmem x hx with hx | rfl
    · exact h.par.len x hx
    · rw [g3]; exact h.par.len l hlm
  · rcases hmem x hx with hx | rfl
    · exact h.par.ok x hx w hw
    · obtain ⟨u, hu, rfl | rfl⟩ := g4 w hw
      · exact h.par.ok l hlm _ hu
      · have h9 := h.par.ok l hlm _ hu
        exact h9
  · rcases List.mem_append.1 hx with hx | hx
    · exact h.len x hx
    · simp only [List.mem_singleton] at hx; subst hx; exact ⟨h1, h12⟩
  · rcases List.mem_append.1 hx with hx | hx
    · exact h.ok x hx
    · simp only [List.mem_singleton] at hx; subst hx; exact hq
  · have hrf := h.rf
    simp only at hrf ⊢
    rw [es, List.flatten_append, List.flatten_cons, refs_append, refs_append, g2, refs_flat_nil hlater]
    rw [e, List.flatten_append, List.flatten_cons, refs_append, refs_append, refs_flat_nil hlater] at hrf
    rw [List.length_append, List.length_singleton, upto_succ, ← hrf]
    simp
theorem okT_start {ps : List (List Wd)} (hn : 1 ≤ ps.length ∧ ps.length ≤ 4) (h : ∀ p ∈ ps, 1 ≤ p.length ∧ p.length ≤ 40 ∧ ∀ w ∈ p, OkN w) : OkT ⟨ps, []⟩ := by
  refine ⟨⟨fun p hp => ⟨(h p hp).1, (h p hp).2.1⟩, fun p hp w hw => ((h p hp).2.2 w hw).1⟩, hn, by simp, fun p hp => by simp at hp, fun p hp => by simp at hp, ?_⟩
  simp only [List.length_nil]
  refine refs_flat_nil ?_
  rw [List.any_eq_false]
  intro p hp
  unfold hasNote
  rw [List.any_eq_true]
  rintro ⟨w, hw, hd⟩
  simp only [decide_eq_true_eq] at hd
  exact hd ((h p hp).2.2 w hw).2
theorem TXs.mono {W : World} {B B' : Nat} {v v' : Value} {pg pn : List Pq} (h : TXs W B v pg v' pn) (hb : B' ≤ B) : TXs W B' v pg v' pn :=
  ⟨⟨h.1.1.base hb, fun p hp => ⟨(h.1.2 p hp).1, Nat.le_trans hb (h.1.2 p hp).2.1, (h.1.2 p hp).2.2⟩⟩, ⟨h.2.1.1.base hb, fun p hp => ⟨(h.2.1.2 p hp).1, Nat.le_trans hb (h.2.1.2 p hp).2.1, (h.2.1.2 p hp).2.2⟩⟩, h.2.2⟩
theorem TS.end {w W : World} {vp vn : Value} {pg pn : List Pq} (h : TS w W vp pg vn pn) (a b : Value) : TXs ((W.setCell ⟨w.heap.size, 0, none⟩ a).setCell ⟨w.heap.size, 1, none⟩ b) w.heap.size vp pg vn pn ∧ Ext w ((W.setCell ⟨w.heap.size, 0, none⟩ a).setCell ⟨w.heap.size, 1, none⟩ b) :=
  ⟨(h.1.keep (fun k h1 _ => (heap_set_other _ _ _ _ (by simp only; omega)).trans (heap_set_other _ _ _ _ (by simp only; omega)))).mono (by omega), (h.2.2.2.setCell (p := ⟨w.heap.size, 0, none⟩) (Nat.le_refl _) _).setCell (p := ⟨w.heap.size, 1, none⟩) (Nat.le_refl _) _⟩
theorem TS.d0 {w W : World} {vp vn : Value} {pg pn : List Pq} (h : TS w W vp pg vn pn) : W.cell? ⟨w.heap.size, 0, none⟩ = some (.slice none 0 0) ∧ W.cell? ⟨w.heap.size, 1, none⟩ = some (.slice none 0 0) := by
  constructor <;> (rw [cell_of_row W _ _ _ 53 (0, 0) h.2.2.1]; rfl)
def T1Rel (w : World) (n : Nat) (s5 : Value) (W : World) : Prop := ∃ (i : Nat) (A : Option Addr) (c : Nat) (pg : List Pq), i ≤ n ∧ s5 = .int .i64 i ∧ pg.length = i ∧ (∀ p ∈ pg, 1 ≤ p.l.length ∧ p.l.length ≤ 40 ∧ ∀ v ∈ p.l, OkN v) ∧ TS w W (.slice A pg.length c) pg (.slice none 0 0) []
def T2Rel (w : World) (n : Nat) (s6 : Value) (W : World) : Prop := ∃ (i : Nat) (A : Option Addr) (c : Nat) (pg : List Pq) (B : Option Addr) (d : Nat) (pn : List Pq), i ≤ n ∧ s6 = .int .i64 i ∧ OkT ⟨pg.map Pq.l, pn.map Pq.l⟩ ∧ pn.length ≤ i ∧ TS w W (.slice A pg.length c) pg (.slice B pn.length d) pn
def T3Rel (w : World) (m : Nat) (vp : Value) (vn : Value) (pn : List Pq) (s8 : Value) (W : World) : Prop := ∃ (p : Nat) (pg : List Pq), p ≤ m ∧ s8 = .int .i64 p ∧ pg.length = m ∧ OkT ⟨pg.map Pq.l, pn.map Pq.l⟩ ∧ TS w W vp pg vn pn
/-- A text of 1 to 4 paragraphs and at most 3 notes, all in blocks of their own. -/
def GTextPost (w : World) (e : Ending) (w' : World) : Prop := ∃ (A : Option Addr) (c : Nat) (pg : List Pq) (B : Option Addr) (d : Nat) (pn : List Pq), e = .returned (.agg #[.slice A pg.length c, .slice B pn.length d]) ∧ OkT ⟨pg.map Pq.l, pn.map Pq.l⟩ ∧ TXs w' w.heap.size (.slice A pg.length c) pg (.slice B pn.length d) pn ∧ Ext w w'
theorem GpPost.at {w W : World} {m : Nat} {e : Ending} (hm : m ≤ 1000) (h : GpPost w m e W) : ∃ p : Pq, e = .returned (.slice (some ⟨p.g, 0, none⟩) p.l.length p.c) ∧ w.heap.size ≤ p.g ∧ WRow W p.g p.l ∧ 1 ≤ p.l.length ∧ p.l.length ≤ 1000 ∧ (p.l.length ≤ p.c ∧ ∀ v ∈ p.l, OkW v) ∧ (p.l.length ≤ m ∧ ∀ v ∈ p.l, OkN v) ∧ Ext w W := by
  obtain ⟨A, c, l, rfl, ho, h1, h2, h3, hx⟩ := h
  obtain ⟨g, rfl, hg, _, hr⟩ := WRow.own ho h1
  obtain ⟨A', c', e, hc, _⟩ := OL.form wcf_len ho
  simp only [Value.slice.injEq] at e
  exact ⟨⟨g, c, l⟩, rfl, hg, hr, h1, Nat.le_trans h2 hm, ⟨by rw [e.2.2]; exact hc, fun v hv => (h3 v hv).1⟩, ⟨h2, h3⟩, hx⟩
set_option maxHeartbeats 4000000 in
set_option maxRecDepth 100000 in
theorem gtext_any (A : Option Addr) (c : Nat) (l : List Int) (w : World) (hb : ∀ n ∈ l, -9223372036854775808 ≤ n ∧ n ≤ 9223372036854775807) (h : SL icf 1 w A l.length l) :
    Calls Tryz.prog 36 #[.slice A l.length c] w (GTextPost w) := by
  obtain ⟨m, hm⟩ : ∃ m, m = l.length := ⟨_, rfl⟩
  have HP := Lib.hid (fun W (hW : Ext w W) (i k : Nat) (ii mm : Int) h1 h2 h3 h4 => (show Calls Tryz.prog 77 #[.slice A m c, .int .i64 ii, .int .i64 mm] W (fun e w' => e = .returned (.int .i64 (pkI l i k)) ∧ W = w') from by rw [hm]; exact pick_fix A c l i k W ii mm h1 h2 h3 h4 hb (h.ext hW)))
  rw [← hm]
  clear hm hb h
  obtain ⟨k0, hk0, hk04⟩ := pk_nat l 0 4 (by omega)
  obtain ⟨k1, hk1, hk14⟩ := pk_nat l 1 4 (by omega)
  have H0 := Lib.hid (fun W hW => (show Calls Tryz.prog 77 #[.slice A m c, .int .i64 0, .int .i64 4] W (fun e w' => e = .returned (.int .i64 (k0 : Int)) ∧ W = w') from by rw [← hk0]; exact HP.out W hW 0 4 0 4 rfl rfl (by omega) (by omega)))
  have H1 := Lib.hid (fun W hW => (show Calls Tryz.prog 77 #[.slice A m c, .int .i64 1, .int .i64 4] W (fun e w' => e = .returned (.int .i64 (k1 : Int)) ∧ W = w') from by rw [← hk1]; exact HP.out W hW 1 4 1 4 rfl rfl (by omega) (by omega)))
  clear hk0 hk1
  go_enter Tryz.func36, Tryz.ntmps36
  go_upto_region 2 with (fail)
  have h2 : TS w ((w.alloc (.cells #[.slice none 0 0, .slice none 0 0] 53)).alloc (.cells #[.slice none 0 0, .slice none 0 0] 53)) (.slice none 0 0) [] (.slice none 0 0) [] := by
    refine ⟨TXs.nil _ _, ?_, ?_, ((Ext.refl w).alloc _).alloc _⟩
    · have := heap_alloc_new (w.alloc (.cells #[.slice none 0 0, .slice none 0 0] 53)) (.cells #[.slice none 0 0, .slice none 0 0] 53)
      rwa [World.size_alloc] at this
    · rw [Below.heap_alloc _ _ _ (by simp)]
      exact heap_alloc_new _ _
  generalize (w.alloc (.cells #[.slice none 0 0, .slice none 0 0] 53)).alloc (.cells #[.slice none 0 0, .slice none 0 0] 53) = w2 at *
  have HS2 := Lib.hid h2
  clear h2
  go_upto_region 4 with (first | (go_at_call 77; refine (H1.out _ HS2.out.2.2.2).mono ?_; rintro e w1 ⟨rfl, rfl⟩))
  go_loopw [5] (fun s5 W => T1Rel w (k0 + 1) s5 W) (fun s5 _ => toM 10 s5)
  case atStart => exact ⟨0, none, 0, [], by omega, rfl, rfl, fun p hp => by simp at hp, HS2.out⟩
  case round =>
    obtain ⟨i, A1, c1, pg, hi, rfl, hpl, hpk, hts⟩ := hrel
    have HPK := Lib.hid hpk
    clear hpk
    have HT := Lib.hid hts
    have HPL := Lib.hid hpl
    have hpl5 : pg.length ≤ 4 := by omega
    clear hts hpl
    by_cases hik : i ≤ k0
    · have hikI : (i : Int) ≤ (k0 : Int) := by omega
      go_upto_region 6 with (first | (go_at_call 77; refine (H0.out _ HT.out.2.2.2).mono ?_; rintro e w1 ⟨rfl, rfl⟩))
      obtain ⟨q, hq, hq2⟩ := pk_nat l (2 + i) 1000000 (by omega)
      have H2 := Lib.hid (fun W hW => (show Calls Tryz.prog 77 #[.slice A m c, .int .i64 (IntKind.i64.wrap (2 + (i : Int))), .int .i64 1000000] W (fun e w' => e = .returned (.int .i64 (q : Int)) ∧ W = w') from by rw [← hq]; exact HP.out W hW (2 + i) 1000000 _ _ (by rw [IntWalk.i64_in _ (by omega)]; omega) rfl (by omega) (by omega)))
      have HG := Lib.hid (fun W => (show Calls Tryz.prog 78 #[.int .i64 (q : Int), .int .i64 40] W (GpPost W 40) from gpart_any q 40 W (by omega) (by omega) (by omega)))
      clear hq hq2
      have c0 := HT.out.c0
      have hsz := HT.out.size
      go_region_law (first
        | (go_simp; go_at_call 77; refine (H2.out _ HT.out.2.2.2.drew).mono ?_; rintro e w1 ⟨rfl, rfl⟩; simp only [])
        | (go_simp; go_at_call 78; refine (HG.out _).mono ?_; rintro e w1 hpo; obtain ⟨p, rfl, hg, hr, p1, p2, p3, p4, hx⟩ := hpo.at (by omega); have HP4 := Lib.hid p4; have HP1 := Lib.hid p1; obtain ⟨A5, c5, w5, hrun, ⟨hc5, hf5⟩, hts5⟩ := HT.out.app0 p w1.heap.size (((Ext.refl _).drew).trans hx) hg hr p1 p2 p3 rfl (by omega); have c01 := (HT.out.ext (((Ext.refl _).drew).trans hx)).c0; have c02 := (HT.out.ext ((((Ext.refl _).drew).trans hx).alloc (.cells #[.slice (some ⟨p.g, 0, none⟩) p.l.length p.c] 54))).c0; have HT5 := Lib.hid hts5; have HRUN := Lib.hid hrun; clear hg hr p1 p2 p3 p4 hx hts5 hrun; simp only [])
        | (refine gstep_append_run (s := .tmp 18) (x := .tmp 24) HRUN.out rfl rfl rfl rfl rfl ?_))
      all_goals
        go_wp2
        refine ⟨⟨i + 1, A5, c5, pg ++ [p], by omega, by simp, by rw [List.length_append, HPL.out]; rfl, fun y hy => (by rcases List.mem_append.1 hy with h | h; exact HPK.out y h; simp only [List.mem_singleton] at h; subst h; exact ⟨HP1.out, HP4.out⟩), by rw [List.length_append]; exact HT5.out⟩, by simp only [toM]; omega⟩
    · have hikI : ¬ (i : Int) ≤ (k0 : Int) := by omega
      have hp1 : 1 ≤ pg.length := by have := HPL.out; omega
      have HOK := Lib.hid (show OkT ⟨pg.map Pq.l, []⟩ from okT_start (by simp; omega) fun y hy => by
        obtain ⟨z, hz, rfl⟩ := List.mem_map.1 hy
        exact HPK.out z hz)
      go_upto_region 8 with (first | (go_at_call 77; refine (H0.out _ HT.out.2.2.2).mono ?_; rintro e w1 ⟨rfl, rfl⟩))
      go_loopw [6] (fun s6 W => T2Rel w k1 s6 W) (fun s6 _ => toM 10 s6)
      case atStart => exact ⟨0, A1, c1, pg, none, 0, [], by omega, rfl, HOK.out, by simp, HT.out⟩
      case round =>
        clear HPL HT hp1 hpl5 hi hikI hik HS2 HPK HOK
        obtain ⟨i2, A2, c2, pg2, B2, d2, pn2, hi2, rfl, hok2, hpn, hts⟩ := hrel
        have hp1 : 1 ≤ pg2.length := by have := hok2.np.1; simpa using this
        have hp4 : pg2.length ≤ 4 := by have := hok2.np.2; simpa using this
        have HOK := Lib.hid hok2
        clear hok2
        have HT := Lib.hid hts
        clear hts
        by_cases hik : i2 < k1
        · have hikI : (i2 : Int) < (k1 : Int) := by omega
          obtain ⟨q, hq, hq2⟩ := pk_nat l (6 + i2) 1000000 (by omega)
          have H6 := Lib.hid (fun W hW => (show Calls Tryz.prog 77 #[.slice A m c, .int .i64 (6 + (i2 : Int)), .int .i64 1000000] W (fun e w' => e = .returned (.int .i64 (q : Int)) ∧ W = w') from by rw [← hq]; exact HP.out W hW (6 + i2) 1000000 _ _ (by omega) rfl (by omega) (by omega)))
          have HG := Lib.hid (fun W => (show Calls Tryz.prog 78 #[.int .i64 (q : Int), .int .i64 12] W (GpPost W 12) from gpart_any q 12 W (by omega) (by omega) (by omega)))
          clear hq
          go_upto_region 12 with (first | (go_at_call 77; refine (H6.out _ HT.out.2.2.2).mono ?_; rintro e w1 ⟨rfl, rfl⟩))
          obtain ⟨m2, hm2⟩ : ∃ m, m = pg2.length := ⟨_, rfl⟩
          rw [← hm2] at HT hp1 hp4
          have HM2 := Lib.hid hm2
          clear hm2
          go_loopw [8] (fun s8 W => T3Rel w m2 (.slice A2 m2 c2) (.slice B2 pn2.length d2) pn2 s8 W) (fun s8 _ => toM 10 s8)
          case atStart => exact ⟨0, pg2, by omega, rfl, HM2.out.symm, HOK.out, HT.out⟩
          case round =>
            clear HT HM2 HOK
            obtain ⟨p, pg3, hpm, rfl, hl3, hok3, hts⟩ := hrel
            have HOK := Lib.hid hok3
            clear hok3
            have HT := Lib.hid hts
            have HL3 := Lib.hid hl3
            clear hts hl3
            have c0 := HT.out.c0
            have c1 := HT.out.c1
            by_cases hpp : p < m2
            · have hppI : (p : Int) < (m2 : Int) := by omega
              have gd : decide ((p : Int) < (m2 : Int)) = true := by rw [decide_eq_true_eq]; omega
              obtain ⟨hb, cap, pp, hv1, hob, hpi, hok, hc⟩ := HT.out.1.1.at (i := p) (by rw [HL3.out]; exact hpp)
              simp only [Value.slice.injEq] at hv1
              obtain ⟨rfl, e7, rfl⟩ := hv1
              clear e7
              obtain ⟨b1, hb1⟩ : ∃ b1, ((pg3.map Pq.l).drop (p + 1)).any hasNote = b1 := ⟨_, rfl⟩
              have HLA := Lib.hid (fun W (hW : Ext wr W) => (show Calls Tryz.prog 80 #[.slice (some ⟨hb, 0, none⟩) m2 c2, .int .i64 (p : Int)] W (BoolIs b1 W) from by
                rw [← hb1]
                have h9 := HT.out.ext hW
                obtain ⟨A9, c9, e9, _, hs9⟩ := OL.form slc_len h9.1.1.1
                simp only [Value.slice.injEq] at e9
                obtain ⟨rfl, e9, rfl⟩ := e9
                have := last_any W (some ⟨hb, 0, none⟩) c2 (pg3.map Pq.sl) (pg3.map Pq.l) p hs9 h9.1.1.rows (by rw [← e9]; omega) (by omega)
                rwa [← e9] at this))
              have HRF := Lib.hid (fun W (hW : Ext wr W) (hh : W.cell? ⟨hb, p, none⟩ = some (.slice (some ⟨pp.g, 0, none⟩) pp.l.length pp.c)) (note : Int) (later : Bool) => refer_at w W (.slice (some ⟨hb, 0, none⟩) m2 c2) (.slice (B2) pn2.length d2) pg3 pn2 (HT.out.ext hW) p hb pp hpi rfl hh q (by omega) note later)
              rw [HL3.out] at HRF
              have HPI := Lib.hid hpi
              have HB1 := Lib.hid hb1
              clear hpi hok hob hb1
              go_upto_region 12 with (fail)
              go_region_held3 (fun W => W.cell? ⟨w.heap.size + 1, 0, none⟩ = some (.slice (some ⟨hb, 0, none⟩) m2 c2) ∧ W.cell? ⟨w.heap.size + 1, 1, none⟩ = some (.slice B2 pn2.length d2) ∧ W.cell? ⟨hb, p, none⟩ = some (.slice (some ⟨pp.g, 0, none⟩) pp.l.length pp.c)) (first | assumption | go_keep) (first
                | (go_at_call 80; refine (HLA.out _ (Ext.refl _).drew).mono ?_; rintro e wn ⟨rfl, rfl⟩)
                | (go_at_call 79; refine (HRF.out _ (Ext.refl _).drew hc _ _).mono ?_; rintro e wn ⟨b, pg4, rfl, hS, hl4, hts4, hbf, hbt⟩; have HT4 := Lib.hid hts4; have HL4 := Lib.hid hl4; have HBF := Lib.hid hbf; have HBT := Lib.hid hbt; clear hts4 hl4 hbf hbt))
              clear HT HL3 HLA HRF hc c0 c1
              obtain ⟨s0, s1, s2⟩ := hS
              cases b with
              | false =>
                go_wp2
                exact ⟨⟨p + 1, pg4, by omega, rfl, HL4.out, by rw [HBF.out rfl]; exact HOK.out, HT4.out⟩, by simp only [toM]; omega⟩
              | true =>
                go_upto_region 15 with (fail)
                go_region_law (first
                  | (go_simp; go_at_call 78; refine (HG.out _).mono ?_; rintro e w1 hpo; obtain ⟨p9, rfl, hg, hr, p1, p2, p3, p4, hx⟩ := hpo.at (by omega); have HP4 := Lib.hid p4; have HP1 := Lib.hid p1; obtain ⟨A5, c5, w5, hrun, ⟨hc5, hf5⟩, hts5⟩ := HT4.out.app1 p9 w1.heap.size (((Ext.refl _).drew).trans hx) hg hr p1 p2 p3 rfl (by omega); have c01 := (HT4.out.ext (((Ext.refl _).drew).trans hx)).c1; have c02 := (HT4.out.ext ((((Ext.refl _).drew).trans hx).alloc (.cells #[.slice (some ⟨p9.g, 0, none⟩) p9.l.length p9.c] 54))).c1; have HT5 := Lib.hid hts5; have HRUN := Lib.hid hrun; clear hg hr p1 p2 p3 p4 hx hts5 hrun hpo; simp only [])
                  | (refine gstep_append_run (s := .tmp 67) (x := .tmp 70) HRUN.out rfl rfl rfl rfl rfl ?_))
                all_goals
                  go_wp2
                  refine ⟨⟨i2 + 1, some ⟨hb, 0, none⟩, c2, pg4, A5, c5, pn2 ++ [p9], by omega, rfl, ?_, by rw [List.length_append]; simp; omega, by rw [HL4.out, List.length_append]; exact HT5.out⟩, by simp only [toM]; omega⟩
                  obtain ⟨hbf, hfl, v, hv, hmp⟩ := HBT.out rfl
                  rw [hmp, List.map_append]
                  exact okT_refer HOK.out (by rw [List.getElem?_map, HPI.out]; rfl) (HB1.out.trans hbf) hfl (by simp; exact IntWalk.i64_in _ (by omega)) hv HP1.out HP4.out.1 HP4.out.2 (by simp; omega)
            · have hppI : ¬ (p : Int) < (m2 : Int) := by omega
              have gd : decide ((p : Int) < (m2 : Int)) = false := by rw [decide_eq_false_iff_not]; omega
              go_upto_region 12 with (fail)
              go_quiet (fail)
              go_wp2
              exact ⟨⟨i2 + 1, A2, c2, pg3, B2, d2, pn2, by omega, rfl, HOK.out, by omega, by rw [HL3.out]; exact HT.out.ext ((Ext.refl _).drewN _)⟩, by simp only [toM]; omega⟩
        · have hikI : ¬ (i2 : Int) < (k1 : Int) := by omega
          obtain ⟨d0, d1⟩ := HT.out.d0
          have g0 := HT.out.g0 0
          have g1 := HT.out.g0 1
          have c0 := HT.out.c0
          have c1 := HT.out.c1
          have HE := Lib.hid (HT.out.end (.slice A2 pg2.length c2) (.slice B2 pn2.length d2))
          go_wp2
          refine bodyPost_ret (v := .agg #[.slice A2 pg2.length c2, .slice B2 pn2.length d2]) (by simp [results, Tryz.results36, go_sem, *]) rfl ?_
          exact ⟨A2, c2, pg2, B2, d2, pn2, rfl, HOK.out, HE.out.1, HE.out.2⟩
end
section
open Go Go.RowKit

def kWd : Lay Wd := (kStr.pair (kStr.pair (kInt.pair kInt))).via fun w => (w.s, w.key, w.tb, w.nt)
def kWs : Lay (List Wd) := kWd.list
def kPs : Lay (List (List Wd)) := kWs.list
def kTx : Lay Tx := (kPs.pair kPs).via fun t => (t.paras, t.notes)
def kIs : Lay (List Int) := kInt.list
def kLn : Lay Ln := (kInt.pair (kInt.pair (kIs.pair kIs))).via fun l => (l.fr, l.un, l.gaps, l.nts)
def kLs : Lay (List Ln) := kLn.list
def kPg : Lay Pg := (kInt.pair (kInt.pair (kInt.pair (kInt.pair (kLs.pair kLs))))).via fun p => (p.num, p.suf, p.ent, p.ver, p.body, p.nts)
def kTs : Lay (List Tx) := kTx.list
def kSe : Lay Se := (kInt.pair (kBool.pair (kIs.pair kTs))).via fun s => (s.ent, s.fz, s.vers, s.texts)
theorem kWd_sz : kWd.sz = 4 := rfl
theorem kWs_sz : kWs.sz = 1 := rfl
theorem kTx_sz : kTx.sz = 2 := rfl
theorem kLn_sz : kLn.sz = 4 := rfl
theorem kPg_sz : kPg.sz = 6 := rfl
theorem kSe_sz : kSe.sz = 4 := rfl
theorem kWd_rep {W : World} {P : Nat → Prop} {w : Wd} {cs : List Value} : kWd.rep W P w cs ↔ cs = [.string ⟨w.s.toArray⟩, .string ⟨w.key.toArray⟩, .int .i64 w.tb, .int .i64 w.nt] := by
  constructor
  · rintro ⟨_, _, rfl, rfl, _, _, rfl, rfl, _, _, rfl, rfl, rfl⟩; rfl
  · rintro rfl; exact ⟨_, _, rfl, rfl, _, _, rfl, rfl, _, _, rfl, rfl, rfl⟩
theorem kTx_rep {W : World} {P : Nat → Prop} {t : Tx} {cs : List Value} : kTx.rep W P t cs ↔ ∃ A n c A' n' c', cs = [.slice A n c, .slice A' n' c'] ∧ n ≤ c ∧ n' ≤ c' ∧ kWs.row W P A n t.paras ∧ kWs.row W P A' n' t.notes := by
  constructor
  · rintro ⟨_, _, rfl, ⟨A, n, c, rfl, h1, h2⟩, ⟨A', n', c', rfl, h3, h4⟩⟩; exact ⟨A, n, c, A', n', c', rfl, h1, h3, h2, h4⟩
  · rintro ⟨A, n, c, A', n', c', rfl, h1, h3, h2, h4⟩; exact ⟨_, _, rfl, ⟨A, n, c, rfl, h1, h2⟩, ⟨A', n', c', rfl, h3, h4⟩⟩
theorem kLn_rep {W : World} {P : Nat → Prop} {l : Ln} {cs : List Value} : kLn.rep W P l cs ↔ ∃ A n c A' n' c', cs = [.int .i64 l.fr, .int .i64 l.un, .slice A n c, .slice A' n' c'] ∧ n ≤ c ∧ n' ≤ c' ∧ kInt.row W P A n l.gaps ∧ kInt.row W P A' n' l.nts := by
  constructor
  · rintro ⟨_, _, rfl, rfl, _, _, rfl, rfl, _, _, rfl, ⟨A, n, c, rfl, h1, h2⟩, ⟨A', n', c', rfl, h3, h4⟩⟩; exact ⟨A, n, c, A', n', c', rfl, h1, h3, h2, h4⟩
  · rintro ⟨A, n, c, A', n', c', rfl, h1, h3, h2, h4⟩; exact ⟨_, _, rfl, rfl, _, _, rfl, rfl, _, _, rfl, ⟨A, n, c, rfl, h1, h2⟩, ⟨A', n', c', rfl, h3, h4⟩⟩
theorem kPg_rep {W : World} {P : Nat → Prop} {p : Pg} {cs : List Value} : kPg.rep W P p cs ↔ ∃ A n c A' n' c', cs = [.int .i64 p.num, .int .i64 p.suf, .int .i64 p.ent, .int .i64 p.ver, .slice A n c, .slice A' n' c'] ∧ n ≤ c ∧ n' ≤ c' ∧ kLn.row W P A n p.body ∧ kLn.row W P A' n' p.nts := by
  constructor
  · rintro ⟨_, _, rfl, rfl, _, _, rfl, rfl, _, _, rfl, rfl, _, _, rfl, rfl, _, _, rfl, ⟨A, n, c, rfl, h1, h2⟩, ⟨A', n', c', rfl, h3, h4⟩⟩; exact ⟨A, n, c, A', n', c', rfl, h1, h3, h2, h4⟩
  · rintro ⟨A, n, c, A', n', c', rfl, h1, h3, h2, h4⟩; exact ⟨_, _, rfl, rfl, _, _, rfl, rfl, _, _, rfl, rfl, _, _, rfl, rfl, _, _, rfl, ⟨A, n, c, rfl, h1, h2⟩, ⟨A', n', c', rfl, h3, h4⟩⟩
theorem kSe_rep {W : World} {P : Nat → Prop} {s : Se} {cs : List Value} : kSe.rep W P s cs ↔ ∃ A n c A' n' c', cs = [.int .i64 s.ent, .bool s.fz, .slice A n c, .slice A' n' c'] ∧ n ≤ c ∧ n' ≤ c' ∧ kInt.row W P A n s.vers ∧ kTx.row W P A' n' s.texts := by
  constructor
  · rintro ⟨_, _, rfl, rfl, _, _, rfl, rfl, _, _, rfl, ⟨A, n, c, rfl, h1, h2⟩, ⟨A', n', c', rfl, h3, h4⟩⟩; exact ⟨A, n, c, A', n', c', rfl, h1, h3, h2, h4⟩
  · rintro ⟨A, n, c, A', n', c', rfl, h1, h3, h2, h4⟩; exact ⟨_, _, rfl, rfl, _, _, rfl, rfl, _, _, rfl, ⟨A, n, c, rfl, h1, h2⟩, ⟨A', n', c', rfl, h3, h4⟩⟩
theorem kWs_rep {W : World} {P : Nat → Prop} {p : List Wd} {cs : List Value} : kWs.rep W P p cs ↔ ∃ A c, cs = [.slice A p.length c] ∧ p.length ≤ c ∧ kWd.row W P A p.length p := by
  constructor
  · rintro ⟨A, n, c, rfl, h1, h2⟩; have e := Lay.row_len h2; subst e; exact ⟨A, c, rfl, h1, h2⟩
  · rintro ⟨A, c, rfl, h1, h2⟩; exact ⟨A, _, c, rfl, h1, h2⟩
end
end Go.Proofs.YtdbnddmncbjobaaGreatDoor