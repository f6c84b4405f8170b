/- The contract of Text. -/
import Derived.Test.YtbfogchdeijedaaDoorGt
import Derived.Deep.RegionLaw
namespace Go.Proofs.YtbfogchdeijedaaDoor
open Go Go.RowKit

theorem step_append_run {P : Program} {w : World} {ops : Array Oper} {o : Oper} {a : Act} {K : Act → World → Prop} {Q : Exit → Act → World → Prop} {E : Prop} {s x : Operand} {t : TypeId} {vs vx v' : Value} {w' : World}
    (hr : (Builtin.append_ #[t, t] t #[vs, vx]).run P w = .ok v' w') (hgd : o.guard = none)
    (ho : o.op = .call { callee := .builtin .append, args := #[s, x], argTypes := #[t, t] }) (hty : o.type = t) (hs : a.eval s = vs) (hx : a.eval x = vx)
    (h : K (a.put o.dst v') w') : if Region.wanted o (yielded ops a.tmps) = true then Oper.wp P o a w K Q else E := by
  have hw : Region.wanted o (yielded ops a.tmps) = true := by simp [Region.wanted, hgd]
  rw [if_pos hw]
  unfold Oper.wp execOp
  simp only [ho, hty, resolve, invoke, builtin, Sem.run_bind, Sem.run_pure, Result.andThen_ok, List.map_toArray, List.map_cons, List.map_nil, hs, hx, hr]
  exact h
theorem pick_fix (A : Option Addr) (c : Nat) (l : List Int) (i m : Nat) (w : World) (ii mm : Int) (hi : ii = (i : Int)) (hmm : mm = (m : Int)) (hm : 1 ≤ m) (hm2 : m ≤ 1000000000) (hb : ∀ n ∈ l, -9223372036854775808 ≤ n ∧ n ≤ 9223372036854775807) (h : SL icf 1 w A l.length l) :
    Calls Tryd.prog 33 #[.slice A l.length c, .int .i64 ii, .int .i64 mm] w fun e w' => e = .returned (.int .i64 (pkI l i m)) ∧ w = w' := by
  subst hi; subst hmm
  exact pick_any A c l i m w hm hm2 hb h
/-- The state of Text: t's cells, its rows. -/
def TS (w W : World) (vp : Value) (pg : List Pg) (vn : Value) (pn : List Pg) : Prop := TXs W (w.heap.size + 2) vp pg vn pn ∧ W.heap[w.heap.size + 1]? = some (.cells #[vp, vn] 42 (0, 0)) ∧ W.heap[w.heap.size]? = some (.cells #[.slice none 0 0, .slice none 0 0] 42 (0, 0)) ∧ Ext w W
theorem TS.size {w W : World} {vp vn : Value} {pg pn : List Pg} (h : TS w W vp pg vn pn) : w.heap.size + 2 ≤ W.heap.size := lt_of_block h.2.1
theorem TS.ext {w W W' : World} {vp vn : Value} {pg pn : List Pg} (h : TS w W vp pg vn pn) (hx : Ext W W') : TS w W' vp pg vn pn := by
  have hs := h.size
  exact ⟨h.1.ext hx, (hx.block _ (by omega)).trans h.2.1, (hx.block _ (by omega)).trans h.2.2.1, h.2.2.2.trans hx⟩
theorem TS.c0 {w W : World} {vp vn : Value} {pg pn : List Pg} (h : TS w W vp pg vn pn) : W.cell? ⟨w.heap.size + 1, 0, none⟩ = some vp := by rw [cell_of_row W _ _ _ 42 (0, 0) h.2.1]; rfl
theorem TS.c1 {w W : World} {vp vn : Value} {pg pn : List Pg} (h : TS w W vp pg vn pn) : W.cell? ⟨w.heap.size + 1, 1, none⟩ = some vn := by rw [cell_of_row W _ _ _ 42 (0, 0) h.2.1]; rfl
theorem TS.f0 {w W : World} {vp vn : Value} {pg pn : List Pg} (h : TS w W vp pg vn pn) (i : Nat) : W.frozen? ⟨w.heap.size + 1, i, none⟩ = false := frozen_of_row W _ i _ 42 h.2.1
theorem TS.g0 {w W : World} {vp vn : Value} {pg pn : List Pg} (h : TS w W vp pg vn pn) (i : Nat) : W.frozen? ⟨w.heap.size, i, none⟩ = false := frozen_of_row W _ i _ 42 h.2.2.1
theorem TS.store {w W : World} {vp vn v0 v1 u : Value} {pg pn : List Pg} (hr : TXs W (w.heap.size + 2) vp pg vn pn) (ht : W.heap[w.heap.size + 1]? = some (.cells #[v0, v1] 42 (0, 0))) (hr2 : W.heap[w.heap.size]? = some (.cells #[.slice none 0 0, .slice none 0 0] 42 (0, 0))) (hx : Ext w W) (i : Nat) (e : (#[v0, v1] : Array Value).setIfInBounds i u = #[vp, vn]) :
    TS w (W.setCell ⟨w.heap.size + 1, i, none⟩ u) vp pg vn pn := by
  refine ⟨hr.keep (fun k h1 _ => heap_set_other _ _ _ _ (by simp only; omega)), ?_, (heap_set_other _ _ _ _ (by simp only; omega)).trans hr2, hx.setCell (by simp only; omega) _⟩
  simp [World.setCell, Array.getElem?_modify, ht, e]
theorem TS.app0 {w W0 X : World} {vp vn : Value} {pg pn : List Pg} (h : TS w W0 vp pg vn pn) (p : Pg) (b : Nat) (hx : Ext W0 X) (hg : W0.heap.size ≤ p.g) (hp : WRow X p.g p.l) (h1 : 1 ≤ p.l.length) (h2 : p.l.length ≤ 1000) (h3 : ∀ v ∈ p.l, v.s.size ≤ 4000000) (hb : b = X.heap.size) (hm : pg.length ≤ 10000) :
    ∃ A' c' w', (Builtin.append_ #[40, 40] 40 #[vp, .slice (some ⟨b, 0, none⟩) 1 1]).run Tryd.prog (X.alloc (.cells #[.slice (some ⟨p.g, 0, none⟩) p.l.length p.c] 44)) = .ok (.slice A' (pg.length + 1) c') w' ∧
      (w'.cell? ⟨w.heap.size + 1, 0, none⟩ = some vp ∧ w'.frozen? ⟨w.heap.size + 1, 0, none⟩ = false) ∧ TS w (w'.setCell ⟨w.heap.size + 1, 0, none⟩ (.slice A' (pg.length + 1) c')) (.slice A' (pg.length + 1) c') (pg ++ [p]) vn pn := by
  obtain ⟨A', c', w', r1, r2, r3⟩ := h.1.append p b hx hg hp h1 h2 h3 hb hm h.size
  have hX := h.ext hx
  have k1 := (r3.block (w.heap.size + 1) (by omega)).trans hX.2.1
  have k2 := (r3.block w.heap.size (by omega)).trans hX.2.2.1
  exact ⟨A', c', w', r1, ⟨by rw [cell_of_row w' _ _ _ 42 (0, 0) k1]; rfl, frozen_of_row w' _ 0 _ 42 k1⟩, TS.store r2 k1 k2 (Below.trans hX.2.2.2 (Below.mono r3 (by omega))) 0 rfl⟩
theorem TS.app1 {w W0 X : World} {vp vn : Value} {pg pn : List Pg} (h : TS w W0 vp pg vn pn) (p : Pg) (b : Nat) (hx : Ext W0 X) (hg : W0.heap.size ≤ p.g) (hp : WRow X p.g p.l) (h1 : 1 ≤ p.l.length) (h2 : p.l.length ≤ 1000) (h3 : ∀ v ∈ p.l, v.s.size ≤ 4000000) (hb : b = X.heap.size) (hm : pn.length ≤ 10000) :
    ∃ A' c' w', (Builtin.append_ #[40, 40] 40 #[vn, .slice (some ⟨b, 0, none⟩) 1 1]).run Tryd.prog (X.alloc (.cells #[.slice (some ⟨p.g, 0, none⟩) p.l.length p.c] 44)) = .ok (.slice A' (pn.length + 1) c') w' ∧
      (w'.cell? ⟨w.heap.size + 1, 1, none⟩ = some vn ∧ w'.frozen? ⟨w.heap.size + 1, 1, none⟩ = false) ∧ TS w (w'.setCell ⟨w.heap.size + 1, 1, none⟩ (.slice A' (pn.length + 1) c')) vp pg (.slice A' (pn.length + 1) c') (pn ++ [p]) := by
  obtain ⟨A', c', w', r1, r2, r3⟩ := h.1.symm.append p b hx hg hp h1 h2 h3 hb hm h.size
  have hX := h.ext hx
  have k1 := (r3.block (w.heap.size + 1) (by omega)).trans hX.2.1
  have k2 := (r3.block w.heap.size (by omega)).trans hX.2.2.1
  exact ⟨A', c', w', r1, ⟨by rw [cell_of_row w' _ _ _ 42 (0, 0) k1]; rfl, frozen_of_row w' _ 1 _ 42 k1⟩, TS.store r2.symm k1 k2 (Below.trans hX.2.2.2 (Below.mono r3 (by omega))) 1 rfl⟩
theorem TS.setP {w W : World} {vp vn : Value} {pg pn : List Pg} (h : TS w W vp pg vn pn) {i : Nat} {p : Pg} (hi : pg[i]? = some p) {k : Nat} {x : Wd} (hk : p.l[k]? = some x) (note : Int) :
    TS w (W.setCell ⟨p.g, k * 4 + 3, none⟩ (.int .i64 note)) vp (pg.set i { p with l := p.l.set k { x with nt := note } }) vn pn := by
  have hB := (h.1.1.2 p (List.mem_of_getElem? hi)).2.1
  exact ⟨h.1.set hi hk (by omega) rfl ((h.1.1.2 p (List.mem_of_getElem? hi)).2.2.2.2 x (List.mem_of_getElem? hk)), (heap_set_other _ _ _ _ (by simp only; omega)).trans h.2.1, (heap_set_other _ _ _ _ (by simp only; omega)).trans h.2.2.1, h.2.2.2.setCell (by simp only; omega) _⟩
def RefAt (w : World) (m i hb : Nat) (vp vn : Value) (pn : List Pg) (p : Pg) (e : Ending) (W' : World) : Prop := ∃ (b : Bool) (pg : List Pg), e = .returned (.bool b) ∧ (W'.cell? ⟨w.heap.size + 1, 0, none⟩ = some vp ∧ W'.cell? ⟨w.heap.size + 1, 1, none⟩ = some vn ∧ W'.cell? ⟨hb, i, none⟩ = some (.slice (some ⟨p.g, 0, none⟩) p.l.length p.c)) ∧ pg.length = m ∧ TS w W' vp pg vn pn
theorem refer_at (w W : World) (vp vn : Value) (pg pn : List Pg) (h : TS w W vp pg vn pn) (i hb : Nat) (p : Pg) (hi : pg[i]? = some p) (ho : vp.ownBlock = some hb) (hc : W.cell? ⟨hb, i, none⟩ = some (.slice (some ⟨p.g, 0, none⟩) p.l.length p.c)) (n : Nat) (hn : n ≤ 1000000) (note : Int) (later : Bool) :
    Calls Tryd.prog 35 #[.slice (some ⟨p.g, 0, none⟩) p.l.length p.c, .int .i64 n, .int .i64 note, .bool later] W (RefAt w pg.length i hb vp vn pn p) := by
  obtain ⟨hr, hB, _, h4, _⟩ := h.1.1.2 p (List.mem_of_getElem? hi)
  refine (refer_any W p.g p.c p.l n note later hr h4 hn).mono ?_
  rintro e W' (⟨b, rfl, rfl⟩ | ⟨k, v, hv, rfl, rfl⟩)
  · exact ⟨b, pg, rfl, ⟨h.c0, h.c1, hc⟩, rfl, h⟩
  · have h2 := h.setP hi hv note
    refine ⟨true, _, rfl, ⟨h2.c0, h2.c1, ?_⟩, by simp, h2⟩
    have hne : p.g ≠ hb := fun e => by
      have h5 := (List.nodup_append.1 (List.nodup_append.1 h.1.2.2).1).2.2 hb (by rw [ho]; simp) p.g (List.mem_map_of_mem (List.mem_of_getElem? hi))
      exact h5 e.symm
    rw [World.cell?_of_block (heap_set_other W ⟨p.g, k * 4 + 3, none⟩ (.int .i64 note) hb hne)]
    exact hc
theorem TXs.mono {W : World} {B B' : Nat} {v v' : Value} {pg pn : List Pg} (h : TXs W B v pg v' pn) (hb : B' ≤ B) : TXs W B' v pg v' pn :=
  ⟨⟨h.1.1.base hb, fun p hp => ⟨(h.1.2 p hp).1, Nat.le_trans hb (h.1.2 p hp).2.1, (h.1.2 p hp).2.2⟩⟩, ⟨h.2.1.1.base hb, fun p hp => ⟨(h.2.1.2 p hp).1, Nat.le_trans hb (h.2.1.2 p hp).2.1, (h.2.1.2 p hp).2.2⟩⟩, h.2.2⟩
theorem TS.end {w W : World} {vp vn : Value} {pg pn : List Pg} (h : TS w W vp pg vn pn) (a b : Value) : TXs ((W.setCell ⟨w.heap.size, 0, none⟩ a).setCell ⟨w.heap.size, 1, none⟩ b) w.heap.size vp pg vn pn ∧ Ext w ((W.setCell ⟨w.heap.size, 0, none⟩ a).setCell ⟨w.heap.size, 1, none⟩ b) :=
  ⟨(h.1.keep (fun k h1 _ => (heap_set_other _ _ _ _ (by simp only; omega)).trans (heap_set_other _ _ _ _ (by simp only; omega)))).mono (by omega), (h.2.2.2.setCell (p := ⟨w.heap.size, 0, none⟩) (Nat.le_refl _) _).setCell (p := ⟨w.heap.size, 1, none⟩) (Nat.le_refl _) _⟩
theorem TS.d0 {w W : World} {vp vn : Value} {pg pn : List Pg} (h : TS w W vp pg vn pn) : W.cell? ⟨w.heap.size, 0, none⟩ = some (.slice none 0 0) ∧ W.cell? ⟨w.heap.size, 1, none⟩ = some (.slice none 0 0) := by
  constructor <;> (rw [cell_of_row W _ _ _ 42 (0, 0) h.2.2.1]; rfl)
def T1Rel (w : World) (n : Nat) (s5 : Value) (W : World) : Prop := ∃ (i : Nat) (A : Option Addr) (c : Nat) (pg : List Pg), i ≤ n ∧ s5 = .int .i64 i ∧ pg.length = i ∧ TS w W (.slice A pg.length c) pg (.slice none 0 0) []
def T2Rel (w : World) (n : Nat) (s6 : Value) (W : World) : Prop := ∃ (i : Nat) (A : Option Addr) (c : Nat) (pg : List Pg) (B : Option Addr) (d : Nat) (pn : List Pg), i ≤ n ∧ s6 = .int .i64 i ∧ 1 ≤ pg.length ∧ pg.length ≤ 4 ∧ pn.length ≤ i ∧ TS w W (.slice A pg.length c) pg (.slice B pn.length d) pn
def T3Rel (w : World) (m : Nat) (vp : Value) (vn : Value) (pn : List Pg) (s8 : Value) (W : World) : Prop := ∃ (p : Nat) (pg : List Pg), p ≤ m ∧ s8 = .int .i64 p ∧ pg.length = m ∧ TS w W vp pg vn pn
/-- A text of 1 to 4 paragraphs and at most 3 notes, all in blocks of their own. -/
def TextPost (w : World) (e : Ending) (w' : World) : Prop := ∃ (A : Option Addr) (c : Nat) (pg : List Pg) (B : Option Addr) (d : Nat) (pn : List Pg), e = .returned (.agg #[.slice A pg.length c, .slice B pn.length d]) ∧ 1 ≤ pg.length ∧ pg.length ≤ 4 ∧ pn.length ≤ 3 ∧ TXs w' w.heap.size (.slice A pg.length c) pg (.slice B pn.length d) pn ∧ Ext w w'
theorem GpPost.at {w W : World} {e : Ending} (h : GpPost w e W) : ∃ p : Pg, e = .returned (.slice (some ⟨p.g, 0, none⟩) p.l.length p.c) ∧ w.heap.size ≤ p.g ∧ WRow W p.g p.l ∧ 1 ≤ p.l.length ∧ p.l.length ≤ 1000 ∧ (∀ v ∈ p.l, v.s.size ≤ 4000000) ∧ Ext w W := by
  obtain ⟨A, c, l, rfl, ho, h1, h2, h3, hx⟩ := h
  obtain ⟨g, rfl, hg, _, hr⟩ := WRow.own ho h1
  exact ⟨⟨g, c, l⟩, rfl, hg, hr, h1, h2, fun v hv => Nat.le_trans (h3 v hv) (by omega), hx⟩
set_option maxHeartbeats 4000000 in
set_option maxRecDepth 100000 in
theorem text_any (A : Option Addr) (c : Nat) (l : List Int) (w : World) (hb : ∀ n ∈ l, -9223372036854775808 ≤ n ∧ n ≤ 9223372036854775807) (h : SL icf 1 w A l.length l) :
    Calls Tryd.prog 15 #[.slice A l.length c] w (TextPost w) := by
  obtain ⟨m, hm⟩ : ∃ m, m = l.length := ⟨_, rfl⟩
  have HP := Lib.hid (fun W (hW : Ext w W) (i k : Nat) (ii mm : Int) h1 h2 h3 h4 => (show Calls Tryd.prog 33 #[.slice A m c, .int .i64 ii, .int .i64 mm] W (fun e w' => e = .returned (.int .i64 (pkI l i k)) ∧ W = w') from by rw [hm]; exact pick_fix A c l i k W ii mm h1 h2 h3 h4 hb (h.ext hW)))
  rw [← hm]
  clear hm hb h
  obtain ⟨k0, hk0, hk04⟩ := pk_nat l 0 4 (by omega)
  obtain ⟨k1, hk1, hk14⟩ := pk_nat l 1 4 (by omega)
  have H0 := Lib.hid (fun W hW => (show Calls Tryd.prog 33 #[.slice A m c, .int .i64 0, .int .i64 4] W (fun e w' => e = .returned (.int .i64 (k0 : Int)) ∧ W = w') from by rw [← hk0]; exact HP.out W hW 0 4 0 4 rfl rfl (by omega) (by omega)))
  have H1 := Lib.hid (fun W hW => (show Calls Tryd.prog 33 #[.slice A m c, .int .i64 1, .int .i64 4] W (fun e w' => e = .returned (.int .i64 (k1 : Int)) ∧ W = w') from by rw [← hk1]; exact HP.out W hW 1 4 1 4 rfl rfl (by omega) (by omega)))
  clear hk0 hk1
  go_enter Tryd.func15, Tryd.ntmps15
  go_upto_region 2 with (fail)
  have h2 : TS w ((w.alloc (.cells #[.slice none 0 0, .slice none 0 0] 42)).alloc (.cells #[.slice none 0 0, .slice none 0 0] 42)) (.slice none 0 0) [] (.slice none 0 0) [] := by
    refine ⟨TXs.nil _ _, ?_, ?_, ((Ext.refl w).alloc _).alloc _⟩
    · have := heap_alloc_new (w.alloc (.cells #[.slice none 0 0, .slice none 0 0] 42)) (.cells #[.slice none 0 0, .slice none 0 0] 42)
      rwa [World.size_alloc] at this
    · rw [Below.heap_alloc _ _ _ (by simp)]
      exact heap_alloc_new _ _
  generalize (w.alloc (.cells #[.slice none 0 0, .slice none 0 0] 42)).alloc (.cells #[.slice none 0 0, .slice none 0 0] 42) = w2 at *
  have HS2 := Lib.hid h2
  clear h2
  go_upto_region 4 with (first | (go_at_call 33; refine (H1.out _ HS2.out.2.2.2).mono ?_; rintro e w1 ⟨rfl, rfl⟩))
  go_loopw [5] (fun s5 W => T1Rel w (k0 + 1) s5 W) (fun s5 _ => toM 10 s5)
  case atStart => exact ⟨0, none, 0, [], by omega, rfl, rfl, HS2.out⟩
  case round =>
    obtain ⟨i, A1, c1, pg, hi, rfl, hpl, hts⟩ := hrel
    have HT := Lib.hid hts
    have HPL := Lib.hid hpl
    have hpl5 : pg.length ≤ 4 := by omega
    clear hts hpl
    by_cases hik : i ≤ k0
    · have hikI : (i : Int) ≤ (k0 : Int) := by omega
      go_upto_region 6 with (first | (go_at_call 33; refine (H0.out _ HT.out.2.2.2).mono ?_; rintro e w1 ⟨rfl, rfl⟩))
      obtain ⟨q, hq, hq2⟩ := pk_nat l (2 + i) 1000000 (by omega)
      have H2 := Lib.hid (fun W hW => (show Calls Tryd.prog 33 #[.slice A m c, .int .i64 (IntKind.i64.wrap (2 + (i : Int))), .int .i64 1000000] W (fun e w' => e = .returned (.int .i64 (q : Int)) ∧ W = w') from by rw [← hq]; exact HP.out W hW (2 + i) 1000000 _ _ (by rw [IntWalk.i64_in _ (by omega)]; omega) rfl (by omega) (by omega)))
      have HG := Lib.hid (fun W => (show Calls Tryd.prog 34 #[.int .i64 (q : Int), .int .i64 40] W (GpPost W) from gpart_any q 40 W (by omega) (by omega) (by omega)))
      clear hq hq2
      have c0 := HT.out.c0
      have hsz := HT.out.size
      go_region_law (first
        | (go_simp; go_at_call 33; refine (H2.out _ HT.out.2.2.2.drew).mono ?_; rintro e w1 ⟨rfl, rfl⟩; simp only [])
        | (go_simp; go_at_call 34; refine (HG.out _).mono ?_; rintro e w1 hpo; obtain ⟨p, rfl, hg, hr, p1, p2, p3, hx⟩ := hpo.at; obtain ⟨A5, c5, w5, hrun, ⟨hc5, hf5⟩, hts5⟩ := HT.out.app0 p w1.heap.size (((Ext.refl _).drew).trans hx) hg hr p1 p2 p3 rfl (by omega); have c01 := (HT.out.ext (((Ext.refl _).drew).trans hx)).c0; have c02 := (HT.out.ext ((((Ext.refl _).drew).trans hx).alloc (.cells #[.slice (some ⟨p.g, 0, none⟩) p.l.length p.c] 44))).c0; have HT5 := Lib.hid hts5; have HRUN := Lib.hid hrun; clear hg hr p1 p2 p3 hx hts5 hrun; simp only [])
        | (refine step_append_run (s := .tmp 18) (x := .tmp 24) HRUN.out rfl rfl rfl rfl rfl ?_))
      all_goals
        go_wp2
        refine ⟨⟨i + 1, A5, c5, pg ++ [p], by omega, by simp, by rw [List.length_append, HPL.out]; rfl, by rw [List.length_append]; exact HT5.out⟩, by simp only [toM]; omega⟩
    · have hikI : ¬ (i : Int) ≤ (k0 : Int) := by omega
      have hp1 : 1 ≤ pg.length := by have := HPL.out; omega
      go_upto_region 8 with (first | (go_at_call 33; refine (H0.out _ HT.out.2.2.2).mono ?_; rintro e w1 ⟨rfl, rfl⟩))
      go_loopw [6] (fun s6 W => T2Rel w k1 s6 W) (fun s6 _ => toM 10 s6)
      case atStart => exact ⟨0, A1, c1, pg, none, 0, [], by omega, rfl, hp1, hpl5, by simp, HT.out⟩
      case round =>
        clear HPL HT hp1 hpl5 hi hikI hik HS2
        obtain ⟨i2, A2, c2, pg2, B2, d2, pn2, hi2, rfl, hp1, hp4, hpn, hts⟩ := hrel
        have HT := Lib.hid hts
        clear hts
        by_cases hik : i2 < k1
        · have hikI : (i2 : Int) < (k1 : Int) := by omega
          obtain ⟨q, hq, hq2⟩ := pk_nat l (6 + i2) 1000000 (by omega)
          have H6 := Lib.hid (fun W hW => (show Calls Tryd.prog 33 #[.slice A m c, .int .i64 (6 + (i2 : Int)), .int .i64 1000000] W (fun e w' => e = .returned (.int .i64 (q : Int)) ∧ W = w') from by rw [← hq]; exact HP.out W hW (6 + i2) 1000000 _ _ (by omega) rfl (by omega) (by omega)))
          have HG := Lib.hid (fun W => (show Calls Tryd.prog 34 #[.int .i64 (q : Int), .int .i64 12] W (GpPost W) from gpart_any q 12 W (by omega) (by omega) (by omega)))
          clear hq
          go_upto_region 12 with (first | (go_at_call 33; refine (H6.out _ HT.out.2.2.2).mono ?_; rintro e w1 ⟨rfl, rfl⟩))
          obtain ⟨m2, hm2⟩ : ∃ m, m = pg2.length := ⟨_, rfl⟩
          rw [← hm2] at HT hp1 hp4
          have HM2 := Lib.hid hm2
          clear hm2
          go_loopw [8] (fun s8 W => T3Rel w m2 (.slice A2 m2 c2) (.slice B2 pn2.length d2) pn2 s8 W) (fun s8 _ => toM 10 s8)
          case atStart => exact ⟨0, pg2, by omega, rfl, HM2.out.symm, HT.out⟩
          case round =>
            clear HT HM2
            obtain ⟨p, pg3, hpm, rfl, hl3, hts⟩ := hrel
            have HT := Lib.hid hts
            have HL3 := Lib.hid hl3
            clear hts hl3
            have c0 := HT.out.c0
            have c1 := HT.out.c1
            by_cases hpp : p < m2
            · have hppI : (p : Int) < (m2 : Int) := by omega
              have gd : decide ((p : Int) < (m2 : Int)) = true := by rw [decide_eq_true_eq]; omega
              obtain ⟨hb, cap, pp, hv1, hob, hpi, hok, hc⟩ := HT.out.1.1.at (i := p) (by rw [HL3.out]; exact hpp)
              simp only [Value.slice.injEq] at hv1
              obtain ⟨rfl, e7, rfl⟩ := hv1
              clear e7
              have HLA := Lib.hid (fun W (hW : Ext wr W) => (show Calls Tryd.prog 36 #[.slice (some ⟨hb, 0, none⟩) m2 c2, .int .i64 (p : Int)] W (BoolSome W) from by
                have h9 := HT.out.ext hW
                obtain ⟨A9, c9, e9, _, hs9⟩ := OL.form slc_len h9.1.1.1
                simp only [Value.slice.injEq] at e9
                obtain ⟨rfl, e9, rfl⟩ := e9
                have := last_any W (some ⟨hb, 0, none⟩) c2 (pg3.map Pg.sl) (pg3.map Pg.l) p hs9 h9.1.1.rows (by rw [← e9]; omega) (by omega)
                rwa [← e9] at this))
              have HRF := Lib.hid (fun W (hW : Ext wr W) (hh : W.cell? ⟨hb, p, none⟩ = some (.slice (some ⟨pp.g, 0, none⟩) pp.l.length pp.c)) (note : Int) (later : Bool) => refer_at w W (.slice (some ⟨hb, 0, none⟩) m2 c2) (.slice (B2) pn2.length d2) pg3 pn2 (HT.out.ext hW) p hb pp hpi rfl hh q (by omega) note later)
              rw [HL3.out] at HRF
              clear hpi hok hob
              go_upto_region 12 with (fail)
              go_region_held3 (fun W => W.cell? ⟨w.heap.size + 1, 0, none⟩ = some (.slice (some ⟨hb, 0, none⟩) m2 c2) ∧ W.cell? ⟨w.heap.size + 1, 1, none⟩ = some (.slice B2 pn2.length d2) ∧ W.cell? ⟨hb, p, none⟩ = some (.slice (some ⟨pp.g, 0, none⟩) pp.l.length pp.c)) (first | assumption | go_keep) (first
                | (go_at_call 36; refine (HLA.out _ (Ext.refl _).drew).mono ?_; rintro e wn ⟨b1, rfl, rfl⟩)
                | (go_at_call 35; refine (HRF.out _ (Ext.refl _).drew hc _ _).mono ?_; rintro e wn ⟨b, pg4, rfl, hS, hl4, hts4⟩; have HT4 := Lib.hid hts4; have HL4 := Lib.hid hl4; clear hts4 hl4))
              clear HT HL3 HLA HRF hc c0 c1
              obtain ⟨s0, s1, s2⟩ := hS
              cases b with
              | false =>
                go_wp2
                exact ⟨⟨p + 1, pg4, by omega, rfl, HL4.out, HT4.out⟩, by simp only [toM]; omega⟩
              | true =>
                go_upto_region 15 with (fail)
                go_region_law (first
                  | (go_simp; go_at_call 34; refine (HG.out _).mono ?_; rintro e w1 hpo; obtain ⟨p9, rfl, hg, hr, p1, p2, p3, hx⟩ := hpo.at; obtain ⟨A5, c5, w5, hrun, ⟨hc5, hf5⟩, hts5⟩ := HT4.out.app1 p9 w1.heap.size (((Ext.refl _).drew).trans hx) hg hr p1 p2 p3 rfl (by omega); have c01 := (HT4.out.ext (((Ext.refl _).drew).trans hx)).c1; have c02 := (HT4.out.ext ((((Ext.refl _).drew).trans hx).alloc (.cells #[.slice (some ⟨p9.g, 0, none⟩) p9.l.length p9.c] 44))).c1; have HT5 := Lib.hid hts5; have HRUN := Lib.hid hrun; clear hg hr p1 p2 p3 hx hts5 hrun hpo; simp only [])
                  | (refine step_append_run (s := .tmp 67) (x := .tmp 70) HRUN.out rfl rfl rfl rfl rfl ?_))
                all_goals
                  go_wp2
                  exact ⟨⟨i2 + 1, some ⟨hb, 0, none⟩, c2, pg4, A5, c5, pn2 ++ [p9], by omega, rfl, by rw [HL4.out]; exact hp1, by rw [HL4.out]; exact hp4, by rw [List.length_append]; simp; omega, by rw [HL4.out, List.length_append]; exact HT5.out⟩, by simp only [toM]; omega⟩
            · have hppI : ¬ (p : Int) < (m2 : Int) := by omega
              have gd : decide ((p : Int) < (m2 : Int)) = false := by rw [decide_eq_false_iff_not]; omega
              go_upto_region 12 with (fail)
              go_quiet (fail)
              go_wp2
              exact ⟨⟨i2 + 1, A2, c2, pg3, B2, d2, pn2, by omega, rfl, by rw [HL3.out]; exact hp1, by rw [HL3.out]; exact hp4, by omega, by rw [HL3.out]; exact HT.out.ext ((Ext.refl _).drewN _)⟩, by simp only [toM]; omega⟩
        · have hikI : ¬ (i2 : Int) < (k1 : Int) := by omega
          obtain ⟨d0, d1⟩ := HT.out.d0
          have g0 := HT.out.g0 0
          have g1 := HT.out.g0 1
          have c0 := HT.out.c0
          have c1 := HT.out.c1
          have HE := Lib.hid (HT.out.end (.slice A2 pg2.length c2) (.slice B2 pn2.length d2))
          go_wp2
          refine bodyPost_ret (v := .agg #[.slice A2 pg2.length c2, .slice B2 pn2.length d2]) (by simp [results, Tryd.results15, go_sem, *]) rfl ?_
          exact ⟨A2, c2, pg2, B2, d2, pn2, rfl, hp1, hp4, by omega, HE.out.1, HE.out.2⟩
end Go.Proofs.YtbfogchdeijedaaDoor
