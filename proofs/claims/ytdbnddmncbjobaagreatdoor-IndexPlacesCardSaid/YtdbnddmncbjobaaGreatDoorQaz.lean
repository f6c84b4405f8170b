/- slices.AppendSeq at book.all's iterator, slices.Collect, book.Pages: walked. -/
import Derived.Test.YtdbnddmncbjobaaGreatDoorQay
namespace Go.Proofs.YtdbnddmncbjobaaGreatDoor
section
open Go Go.RowKit Go.Shelf
attribute [local go_sem] Oper.semAt_some

theorem wpListIn_append_run {F : Fence} {n : Nat} {P : Program} {w : World} {ops : Array Oper} {rest : List Oper} {o : Oper} {a : Act} {Q : Exit → Act → World → Prop} {s x : Operand} {t : TypeId} {vs vx v' : Value} {w' : World}
    (hr : (Builtin.append_ #[t, t] t #[vs, vx]).run P w = .ok v' w') (hgd : o.guard = none)
    (ho : o.op = .call { callee := .builtin .append, args := #[s, x], argTypes := #[t, t] }) (hty : o.type = t) (hs : a.eval s = vs) (hx : a.eval x = vx)
    (h : wpListIn F n P ops Q rest (a.put o.dst v') w') : wpListIn F n P ops Q (o :: rest) a w := by
  refine wpListIn_plain hgd fun K hK => ?_
  unfold Oper.wpIn
  refine ⟨by simp [Oper.about, ho, resolve, Target.leads, Sem.run_pure], ?_⟩
  rw [Oper.semAt_plain F _ _ (by rw [ho]; intro c hc'; cases hc')]
  rw [← hty] at hr
  simp [execOp, ho, resolve, invoke, builtin, hs, hx, hty, Result.andThen]
  rw [hty] at hr
  simp [hr]
  exact hK _ _ h
def ClPost (w : World) (b : Bk) (e : Ending) (w' : World) : Prop := ∃ A n c, e = .returned (.slice A n c) ∧ n ≤ c ∧ n ≤ 1000000 ∧ kPg.row w' (fun j => w.heap.size ≤ j) A n (pagesB b) ∧ Ext w w'
/-- Between two rounds: the pages that have come are in a row of the call's own. -/
structure ClI (w : World) (D z : Nat) (pre : List PgV) (q : Nat → Prop) (W : World) : Prop where
  x : Ext w W
  s : D + 2 ≤ W.heap.size
  hq : ∀ j, q j → j ≠ z ∧ j ≠ D ∧ j ≠ D + 1
  v : ∃ A n c, n = pre.length ∧ n ≤ c ∧ W.heap[z]? = some (.cells #[.slice A n c] 106 (0, 0)) ∧ kPg.own 84 W (D + 3) (fun j => D + 3 ≤ j) (.slice A n c) (pre.map (·.1)) ∧ ∀ j, (Value.slice A n c).ownBlock = some j → ¬ q j
theorem ClI.ab {w wl : World} {z : Nat} (hwz : w.heap.size ≤ z) (hz : z < wl.heap.size) : AbMv (wl.heap.size + 2) (ClI w wl.heap.size z) := by
  intro s Q Q' A B h hm hg
  obtain ⟨Ad, n, c, h1, h2, h3, h4, h5⟩ := h.v
  have hlt := Lay.own_lt h4
  have hA := h.s
  refine ⟨hm.ext w (by omega) h.x, Nat.le_trans h.s hm.size, fun j hj => ?_, Ad, n, c, h1, h2, hm.blk (by omega) h3, Lay.own_keep h4 hm.size fun j hj hl => hm.keep j ?_ hl, fun j hj hq => ?_⟩
  · rcases hg j hj with h1 | h1 | h1
    · exact h.hq j h1
    · omega
    · omega
  · rcases hj with hj | hj
    · omega
    · have := hlt j hj; omega
  · have := hlt j hj
    rcases hg j hq with h6 | h6 | h6
    · exact h5 j hj h6
    · omega
    · omega
theorem ClI.put {w wl : World} {z : Nat} (hwz : w.heap.size ≤ z) (hz : z < wl.heap.size) {s : List PgV} {q : Nat → Prop} {W : World} {k : Nat} {o : Obj} (hk : k = wl.heap.size + 1 ∨ k = wl.heap.size) (h : ClI w wl.heap.size z s q W) : ClI w wl.heap.size z s q (W.putObj k o) := by
  obtain ⟨Ad, n, c, h1, h2, h3, h4, h5⟩ := h.v
  have hlt := Lay.own_lt h4
  refine ⟨h.x.putObj (by omega) o, by simpa using h.s, h.hq, Ad, n, c, h1, h2, (World.putObj_heap_other (by omega)).trans h3, Lay.own_keep h4 (by simp) fun j hj _ => World.putObj_heap_other ?_, h5⟩
  rcases hj with hj | hj
  · omega
  · have := hlt j hj; omega
def ClAx (D z zb : Nat) (x : PgV) (_ : Nat → Prop) (a' : Act) (W : World) : Prop :=
  ∃ Bx, D + 2 < Bx ∧ W.heap[Bx]? = some (.cells (pgCells x.1 x.2.1.1 x.2.1.2.1 x.2.1.2.2 x.2.2.1 x.2.2.2.1 x.2.2.2.2) 84 (0, 0)) ∧
    a' = { tmps := #[.slice none 0 0, .func (.func 126) #[] #[.pointer (some ⟨zb, 0, none⟩)], .pointer (some ⟨z, 0, none⟩), undef, .slice none 0 0, .pointer (some ⟨Bx, 0, none⟩), .func (.func 126) #[] #[.pointer (some ⟨zb, 0, none⟩)],
      .agg (pgCells x.1 x.2.1.1 x.2.1.2.1 x.2.1.2.2 x.2.2.1 x.2.2.2.1 x.2.2.2.2), undef, undef, undef, undef, undef], defers := [] }
/-- A page is appended. -/
theorem cl_app {w wl W : World} {z : Nat} {pre : List PgV} {q : Nat → Prop} (hwz : w.heap.size ≤ z) (hz : z < wl.heap.size) (hI : ClI w wl.heap.size z pre q W) {x : PgV} (hrp : pgRp (fun j => (q j ∧ j ≠ wl.heap.size + 2) ∧ wl.heap.size ≤ j) x W) (hqs : ∀ j, q j → j < W.heap.size) (hlen : wl.heap.size + 2 < W.heap.size) (hpl : pre.length < 10000000) :
    ∃ Ad n cc A' n' c' w', W.heap[z]? = some (.cells #[.slice Ad n cc] 106 (0, 0)) ∧ (Builtin.append_ #[106, 106] 106 #[.slice Ad n cc, .slice (some ⟨W.heap.size, 0, none⟩) 1 1]).run Tryz.prog (W.alloc (.cells (pgCells x.1 x.2.1.1 x.2.1.2.1 x.2.1.2.2 x.2.2.1 x.2.2.2.1 x.2.2.2.2) 84)) = .ok (.slice A' n' c') w' ∧
      w'.heap[z]? = some (.cells #[.slice Ad n cc] 106 (0, 0)) ∧ ((w'.setCell ⟨z, 0, none⟩ (.slice A' n' c')).heap[wl.heap.size + 1]? = W.heap[wl.heap.size + 1]? ∧ (w'.setCell ⟨z, 0, none⟩ (.slice A' n' c')).heap[wl.heap.size]? = W.heap[wl.heap.size]?) ∧ (∀ j, q j → (w'.setCell ⟨z, 0, none⟩ (.slice A' n' c')).heap[j]? = W.heap[j]?) ∧ ClI w wl.heap.size z (pre ++ [x]) q (w'.setCell ⟨z, 0, none⟩ (.slice A' n' c')) := by
  obtain ⟨Ad, n, cc, h1, h2, h3, h4, h5⟩ := hI.v
  obtain ⟨pg, ⟨A7, n7, c7⟩, ⟨A8, n8, c8⟩⟩ := x
  obtain ⟨k1, k2, k3, k4, _⟩ := hrp
  dsimp only at k1 k2 k3 k4
  have hsub : ∀ j, ((q j ∧ j ≠ wl.heap.size + 2) ∧ wl.heap.size ≤ j) → j < W.heap.size → wl.heap.size + 3 ≤ j ∧ (Value.slice Ad n cc).ownBlock ≠ some j := fun j hj _ => by
    have := hI.hq j hj.1.1
    exact ⟨by omega, fun e => h5 j e hj.1.1⟩
  have hlt := Lay.own_lt h4
  obtain ⟨A', c', w', r1, r2, r3, r4, r5, r6⟩ := own_app1 (k := kPg) (Pr := Tryz.prog) (t := 106) Tryz.underlying106 info84 rfl (by decide) (by omega) h4 (by omega) (cs := pgCells pg A7 n7 c7 A8 n8 c8) (T := 84) (x := pg) (kPg_rep.2 ⟨A7, n7, c7, A8, n8, c8, rfl, k1, k2, Lay.row_mono k3 hsub, Lay.row_mono k4 hsub⟩) 1 (by rw [List.length_map]; omega)
  have hw : ∀ j, j < W.heap.size → (Value.slice Ad n cc).ownBlock ≠ some j → j ≠ z → (w'.setCell ⟨z, 0, none⟩ (.slice A' ((pre.map (·.1)).length + 1) c')).heap[j]? = W.heap[j]? := fun j hj ho hz => (heap_setCell_other _ ⟨z, 0, none⟩ j _ hz).trans (r4 j hj ho)
  have hzW := lt_of_block h3
  have hzo : (Value.slice Ad n cc).ownBlock ≠ some z := fun e => by have := hlt z e; omega
  have hz' : w'.heap[z]? = some (.cells #[.slice Ad n cc] 106 (0, 0)) := (r4 z hzW hzo).trans h3
  have hlt' := Lay.own_lt r2
  refine ⟨Ad, n, cc, A', _, c', w', h3, r1, hz', ⟨hw _ (by omega) (fun e => by have := hlt _ e; omega) (by omega), hw _ (by omega) (fun e => by have := hlt _ e; omega) (by omega)⟩, fun j hj => hw j (hqs j hj) (fun e => h5 j e hj) (hI.hq j hj).1, ?_⟩
  refine ⟨Ext.setCell (p := ⟨z, 0, none⟩) (Below.trans hI.x (r3 _ (by have := hI.x.lt; omega))) hwz _, by have := hI.s; simp; omega, hI.hq, A', (pre.map (·.1)).length + 1, c', by simp, ?_, ?_, ?_, fun j hj hq => ?_⟩
  · obtain ⟨A9, c9, e9, h9, _⟩ := Lay.own_row r2
    obtain ⟨_, e2, e3⟩ := Value.slice.inj e9
    rw [e2, e3]; exact h9
  · rw [heap_setCell_same _ z 0 _ 106 _ hz']; rfl
  · rw [List.map_append]
    exact Lay.own_keep r2 (by simp) fun j hj _ => heap_setCell_other _ ⟨z, 0, none⟩ j _ (by
      rcases hj with hj | hj
      · show j ≠ z; omega
      · have := hlt' j hj; show j ≠ z; omega)
  · rcases r6 j hj with h6 | h6
    · exact h5 j h6 hq
    · have := hqs j hq; omega
set_option maxHeartbeats 4000000 in
set_option maxRecDepth 100000 in
theorem appseq_any (P : Nat → Prop) (w : World) (b : Bk) (zb : Nat) (A : Option Addr) (N c : Nat) (hb : BkI b) (hB : w.heap[zb]? = some (.cells #[.int .i64 b.ms, .int .i64 b.ht, .slice A N c] 27 (0, 0))) (hr : kSe.row w P A N b.secs) (hL : EnvW w) :
    Calls Tryz.prog 139 #[.slice none 0 0, .func (.func 126) #[] #[.pointer (some ⟨zb, 0, none⟩)]] w (ClPost w b) := by
  refine (callsIn_wide (n := 5)).1 ?_
  refine callsIn_of_wp_marks Tryz.func139 rfl trivial ?_ rfl
  simp only [Tryz.ntmps139, List.size_toArray, List.length_cons, List.length_nil, Nat.reduceAdd, Nat.reduceSub, Array.replicate_succ, Array.replicate_zero, List.push_toArray, List.append_toArray, List.nil_append, List.cons_append]
  refine wpIn_wide.2 ?_
  go_wp2_with fail
  obtain ⟨wl, hwl⟩ : ∃ wl, w.alloc (.cells #[.slice none 0 0] 106) = wl := ⟨_, rfl⟩
  obtain ⟨z, hz⟩ : ∃ z, w.heap.size = z := ⟨_, rfl⟩
  rw [hwl, hz]
  have hsz : wl.heap.size = z + 1 := by rw [← hwl, ← hz]; simp
  have hxl : Ext w wl := by rw [← hwl]; exact (Ext.refl w).alloc _
  have hZ : wl.heap[z]? = some (.cells #[.slice none 0 0] 106 (0, 0)) := by rw [← hwl, ← hz]; exact heap_alloc_at _ _ _ _ rfl
  have hzl := lt_of_block hB
  have HSEQ := all1_seq 4 wl b zb A N c (fun j => j < w.heap.size) hb (fun j hj => by omega) hL.lt4 hzl ((hxl.block _ hzl).trans hB) (Lay.row_ext (Lay.row_mono (Q := fun j => j < w.heap.size) hr fun j _ hl => hl) hxl) (hL.ext hxl)
  have HNP := Lib.hid hb.np
  clear hwl hzl hB hr hL hb
  refine (wpIn_wide (n := 5)).1 ?_
  refine rangeH (n := 5) rfl (by omega) (gf := 126) (lb := #[.pointer (some ⟨zb, 0, none⟩)]) rfl trivial (enters_of Tryz.func126 (by kernel_rfl) rfl) HSEQ (fun x => rfl) (fun _ _ _ _ _ => pgRp_put) (ClI w wl.heap.size z) (fun _ _ _ _ => False) (ClI.ab (by omega) (by omega)) (fun _ _ _ _ _ _ h => h.elim)
    (fun s q W o' h => h.put (by omega) (by omega) (.inl rfl)) (fun cc s q W o' h => h) (fun j hj => by omega) (fun s q W h j hj => (h.hq j hj).2) (fun W hx hs => ⟨hxl.trans hx, by omega, fun j hj => by omega, none, 0, 0, rfl, Nat.le_refl _, (hx.block _ (by omega)).trans hZ, Lay.own_nil _ _ _ _ _, fun j hj => by cases hj⟩)
    (ClAx wl.heap.size z zb) (fun _ _ _ _ _ h => ?ap) (fun q x W W' h hx => pgRp_ext h hx) ?assign ?body ?done ?stop
  case ap =>
    obtain ⟨Bx, h1, h2, h3⟩ := h
    exact ⟨Bx, h1, (World.putObj_heap_other (by omega)).trans h2, h3⟩
  case assign =>
    rintro l ⟨pg, ⟨A7, n7, c7⟩, ⟨A8, n8, c8⟩⟩ q W K hrp hlen hqs hK
    dsimp only [pgEnc]
    gi_wp2
    exact hK _ _ ((Ext.refl W).alloc _) ⟨W.heap.size, by omega, heap_alloc_at _ _ _ _ rfl, rfl⟩
  case body =>
    rintro pre x q a' W hI hrp ⟨Bx, hBx, hB, rfl⟩ hqs hlen hsp
    have hpl : pre.length < 10000000 := by
      have h1 := hsp.length_le
      have h2 := HNP.out
      simp only [List.length_map, List.length_append, List.length_cons, List.length_nil] at h1
      omega
    obtain ⟨Ad, n, cc, A', n', c', w', hz1, hrun, hz2, hfin⟩ := cl_app (by omega) (by omega) hI hrp hqs hlen hpl
    obtain ⟨pg, ⟨A7, n7, c7⟩, ⟨A8, n8, c8⟩⟩ := x
    dsimp only [pgCells] at hB hrun hfin ⊢
    have c0 := cell_of hB (i := 0) (u := .int .i64 pg.num) rfl
    have c1 := cell_of hB (i := 1) (u := .int .i64 pg.suf) rfl
    have c2 := cell_of hB (i := 2) (u := .int .i64 pg.ent) rfl
    have c3 := cell_of hB (i := 3) (u := .int .i64 pg.ver) rfl
    have c4 := cell_of hB (i := 4) (u := .slice A7 n7 c7) rfl
    have c5 := cell_of hB (i := 5) (u := .slice A8 n8 c8) rfl
    have s0 := cell_of hz1 (i := 0) (u := .slice Ad n cc) rfl
    have s1 := cell_of hz2 (i := 0) (u := .slice Ad n cc) rfl
    have s2 := frozen_of hz2 0
    have HRUN := Lib.hid hrun
    have HFIN := Lib.hid hfin
    clear hI hrp hqs hB hrun hfin hz1 hz2 HSEQ hsp
    gi_wp2_with (gi_at_builtin; refine wpListIn_append_run (s := .tmp 8) (x := .tmp 10) HRUN.out rfl rfl rfl rfl rfl ?_)
    exact HFIN.out
  case done =>
    intro xs q W hS hI hK
    obtain ⟨Ad, n, cc, hn, hnc, hz1, ho, _⟩ := hI.v
    have s0 := cell_of hz1 (i := 0) (u := .slice Ad n cc) rfl
    have HI := Lib.hid hI
    have HK := Lib.hid hK
    have HO := Lib.hid ho
    have HS := Lib.hid hS
    have HN := Lib.hid (And.intro hn hnc)
    clear hI hK HSEQ ho hS hn hnc hz1
    gi_wp2
    go_wp2_with fail
    obtain ⟨Z, hZ⟩ : ∃ Z, W.putObj wl.heap.size (.deferred none) = Z := ⟨_, rfl⟩
    have hlt := Lay.own_lt HO.out
    have hxZ : Ext w Z := by rw [← hZ]; exact HI.out.x.putObj (by omega) _
    have hoZ : kPg.own 84 Z (wl.heap.size + 3) (fun j => wl.heap.size + 3 ≤ j) (.slice Ad n cc) (xs.map (·.1)) := by
      rw [← hZ]
      exact Lay.own_keep HO.out (by simp) fun j hj _ => World.putObj_heap_other (by
        rcases hj with hj | hj
        · omega
        · have := hlt j hj; omega)
    refine ⟨by simp, .inl ⟨_, _, rfl, run_takeDeferred HK.out, ?_⟩⟩
    rw [hZ]
    refine ⟨.slice Ad n cc, by simp [results, Tryz.results139, go_sem], Ad, n, cc, rfl, HN.out.2, ?_, ?_, hxZ⟩
    · have h1 := HNP.out
      rw [← HS.out, List.length_map] at h1
      have := HN.out.1
      omega
    · obtain ⟨A9, c9, e9, _, h9⟩ := Lay.own_row hoZ
      obtain ⟨e1, e2, _⟩ := Value.slice.inj e9
      rw [← e1, ← e2, HS.out] at h9
      exact Lay.row_mono h9 fun j hj _ => by
        rcases hj with hj | hj
        · omega
        · have := hlt j hj; omega
  case stop =>
    intro cc pre q W hS hX hK
    exact hX.elim
set_option maxHeartbeats 4000000 in
set_option maxRecDepth 100000 in
theorem collect_any (P : Nat → Prop) (w : World) (b : Bk) (zb : Nat) (A : Option Addr) (N c : Nat) (hb : BkI b) (hB : w.heap[zb]? = some (.cells #[.int .i64 b.ms, .int .i64 b.ht, .slice A N c] 27 (0, 0))) (hr : kSe.row w P A N b.secs) (hL : EnvW w) :
    Calls Tryz.prog 109 #[.func (.func 126) #[] #[.pointer (some ⟨zb, 0, none⟩)]] w (ClPost w b) := by
  have HA := Lib.hid (appseq_any P w b zb A N c hb hB hr hL)
  clear hb hB hr hL
  go_enter Tryz.func109, Tryz.ntmps109
  go_wp2_with (first | (go_at_call 139; refine (HA.out).mono ?_; rintro e w1 ⟨A1, n1, c1, rfl, h1⟩))
  go_ret
  exact ⟨A1, n1, c1, rfl, h1⟩
set_option maxHeartbeats 4000000 in
set_option maxRecDepth 100000 in
theorem pages_any (P : Nat → Prop) (w : World) (b : Bk) (A : Option Addr) (N c : Nat) (hb : BkI b) (hr : kSe.row w P A N b.secs) (hL : EnvW w) :
    Calls Tryz.prog 55 #[.agg #[.int .i64 b.ms, .int .i64 b.ht, .slice A N c]] w (ClPost w b) := by
  obtain ⟨W0, hW0⟩ : ∃ W0, w.alloc (.cells #[.int .i64 b.ms, .int .i64 b.ht, .slice A N c] 27) = W0 := ⟨_, rfl⟩
  have hx0 : Ext w W0 := by rw [← hW0]; exact (Ext.refl w).alloc _
  have hx1 : Ext w (W0.alloc (.cells #[.int .i64 b.ms, .int .i64 b.ht, .slice A N c] 27)) := hx0.alloc _
  have HA := Lib.hid (collect_any P (W0.alloc (.cells #[.int .i64 b.ms, .int .i64 b.ht, .slice A N c] 27)) b W0.heap.size A N c hb (heap_alloc_at _ _ _ _ rfl) (Lay.row_ext hr hx1) (hL.ext hx1))
  have a0 : W0.cell? ⟨w.heap.size, 0, none⟩ = some (.int .i64 b.ms) := by rw [← hW0]; exact cell_of (heap_alloc_at w _ _ _ rfl) (i := 0) rfl
  have a1 : W0.cell? ⟨w.heap.size, 1, none⟩ = some (.int .i64 b.ht) := by rw [← hW0]; exact cell_of (heap_alloc_at w _ _ _ rfl) (i := 1) rfl
  have a2 : W0.cell? ⟨w.heap.size, 2, none⟩ = some (.slice A N c) := by rw [← hW0]; exact cell_of (heap_alloc_at w _ _ _ rfl) (i := 2) rfl
  have HX1 := Lib.hid hx1
  clear hb hr hL hx0 hx1
  go_enter Tryz.func55, Tryz.ntmps55
  go_upto_region 1 with (fail)
  clear hW0
  go_wp2_with (first | (go_at_call 73; refine (all_any _ _ _ _ _ _).mono ?_; rintro e w' ⟨rfl, rfl⟩) | (go_at_call 109; refine (HA.out).mono ?_; rintro e w1 ⟨A1, n1, c1, rfl, h1, h2, h3, h4⟩))
  go_ret
  exact ⟨A1, n1, c1, rfl, h1, h2, Lay.row_mono h3 fun j hj _ => Nat.le_trans HX1.out.lt hj, HX1.out.trans h4⟩
end
section
open Go Go.RowKit

theorem OkT.wn {t : Tx} (h : OkT t) : 1 ≤ wordsN (t.paras ++ t.notes) ∧ wordsN (t.paras ++ t.notes) ≤ 1000000 := by
  have hle : ∀ (B : Nat) (l : List (List Wd)), (∀ p ∈ l, p.length ≤ B) → wordsN l ≤ B * l.length := by
    intro B l
    induction l with
    | nil => intro _; simp [wordsN]
    | cons p l ih =>
      intro hl
      have h1 := hl p (by simp)
      have h2 := ih fun q hq => hl q (by simp [hq])
      simp only [wordsN, List.map_cons, List.sum_cons, List.length_cons, Nat.mul_succ] at h2 ⊢
      omega
  have hap : wordsN (t.paras ++ t.notes) = wordsN t.paras + wordsN t.notes := by simp [wordsN]
  have h1 := hle 40 t.paras fun p hp => (h.par.len p hp).2
  have h2 := hle 12 t.notes fun p hp => (h.len p hp).2
  have h3 := h.np
  have h4 := h.nn
  refine ⟨?_, by omega⟩
  cases hp : t.paras with
  | nil => rw [hp] at h3; simp at h3
  | cons p r =>
    have := (h.par.len p (by rw [hp]; simp)).1
    simp only [wordsN, List.cons_append, List.map_cons, List.sum_cons]
    omega
set_option maxHeartbeats 4000000 in
set_option maxRecDepth 100000 in
theorem wrong_ok (P : Nat → Prop) (w : World) (m h : Int) (B : Option Addr) (N k : Nat) (t : Tx) (A A' : Option Addr) (n n' c c' : Nat) (h1 : kWs.row w P A n t.paras) (h2 : kWs.row w P A' n' t.notes) (hT : OkT t) (hm0 : 500 ≤ m) (hm : m ≤ 2000) (hh0 : 4 ≤ h) (hh : h ≤ 100) (hL : EnvW w) :
    Calls Tryz.prog 83 #[.agg #[.int .i64 m, .int .i64 h, .slice B N k], .agg #[.slice A n c, .slice A' n' c']] w (fun e w' => e = .returned (.int .i64 0) ∧ Ext w w') := by
  have HPT := Lib.hid (fun X (hX : Ext w X) => ptext_any P X t m h A A' n n' c c' (Lay.row_ext h1 hX) (Lay.row_ext h2 hX) (txP_of hT hm0 hm hh0 hh) hm0 hm (hL.ext hX))
  have HCO := Lib.hid (fun X (hX : Ext w X) => count_any P X A A' n n' c c' t (Lay.row_ext h1 hX) (Lay.row_ext h2 hX) (by have := hT.np; omega) (by have := hT.nn; omega) hT.wn.2)
  have hw1 := hT.wn.1
  obtain ⟨q, hq⟩ : ∃ q, wordsN (t.paras ++ t.notes) = q := ⟨_, rfl⟩
  rw [hq] at hw1 HCO
  clear h1 h2 hT hL hq
  have hq0 : ((q : Int) == 0) = false := by simp; omega
  go_enter Tryz.func83, Tryz.ntmps83
  go_upto_region 1 with (fail)
  obtain ⟨W0, hW0⟩ : ∃ W0, (w.alloc (.cells #[.int .i64 m, .int .i64 h, .slice B N k] 27)).alloc (.cells #[.slice A n c, .slice A' n' c'] 53) = W0 := ⟨_, rfl⟩
  obtain ⟨z, hz⟩ : ∃ z, w.heap.size = z := ⟨_, rfl⟩
  have hx0 : Ext w W0 := by rw [← hW0]; exact ((Ext.refl w).alloc _).alloc _
  have hB1 : W0.heap[z]? = some (.cells #[.int .i64 m, .int .i64 h, .slice B N k] 27 (0, 0)) := by rw [← hW0, ← hz, heap_alloc_old _ _ _ (by simp)]; exact heap_alloc_at _ _ _ _ rfl
  have hB2 : W0.heap[z + 1]? = some (.cells #[.slice A n c, .slice A' n' c'] 53 (0, 0)) := by rw [← hW0, ← hz]; exact heap_alloc_at _ _ _ _ (by simp)
  rw [hW0, hz]
  have a0 := cell_of hB1 (i := 0) (u := .int .i64 m) rfl
  have a1 := cell_of hB1 (i := 1) (u := .int .i64 h) rfl
  have b0 := cell_of hB2 (i := 0) (u := .slice A n c) rfl
  have b1 := cell_of hB2 (i := 1) (u := .slice A' n' c') rfl
  have HX0 := Lib.hid hx0
  have HB2 := Lib.hid hB2
  clear hW0 hz hx0 hB1 hB2
  go_upto_region 2 with (first | (go_at_call 127; refine (HPT.out _ HX0.out).mono ?_; rintro e w1 ⟨A1, c1, rfl, _, hx1⟩))
  have hB2 := (hx1.block _ (lt_of_block HB2.out)).trans HB2.out
  have b0 := cell_of hB2 (i := 0) (u := .slice A n c) rfl
  have b1 := cell_of hB2 (i := 1) (u := .slice A' n' c') rfl
  have HX1 := Lib.hid (HX0.out.trans hx1)
  clear hx1 hB2 a0 a1 HPT
  go_wp2_with (first | (go_at_call 31; refine (HCO.out _ HX1.out).mono ?_; rintro e w2 ⟨rfl, hx2⟩))
  go_ret
  exact ⟨rfl, HX1.out.trans hx2⟩
def FitPost (w : World) (m h : Int) (A : Option Addr) (N c np : Nat) (e : Ending) (w' : World) : Prop :=
  Ext w w' ∧ ((np ≤ 16384 ∧ e = .returned (.tuple #[.agg #[.int .i64 m, .int .i64 h, .slice A N c], .int .i64 0])) ∨ (16384 < np ∧ e = .returned (.tuple #[.agg #[.int .i64 0, .int .i64 0, .slice none 0 0], .int .i64 2])))
/-- The result of three cells is stored. -/
theorem st3 {W : World} {z : Nat} {a0 a1 a2 : Value} (h : W.heap[z]? = some (.cells #[a0, a1, a2] 27 (0, 0))) (v0 v1 v2 : Value) :
    (((W.setCell ⟨z, 0, none⟩ v0).setCell ⟨z, 1, none⟩ v1).setCell ⟨z, 2, none⟩ v2).heap[z]? = some (.cells #[v0, v1, v2] 27 (0, 0)) :=
  heap_setCell_same _ z 2 _ 27 _ (heap_setCell_same _ z 1 _ 27 _ (heap_setCell_same _ z 0 _ 27 _ h))
theorem ext3 {a W : World} (h : Ext a W) {z : Nat} (hz : a.heap.size ≤ z) (v0 v1 v2 : Value) : Ext a (((W.setCell ⟨z, 0, none⟩ v0).setCell ⟨z, 1, none⟩ v1).setCell ⟨z, 2, none⟩ v2) :=
  ((h.setCell (p := ⟨z, 0, none⟩) hz v0).setCell (p := ⟨z, 1, none⟩) hz v1).setCell (p := ⟨z, 2, none⟩) hz v2
set_option maxHeartbeats 4000000 in
set_option maxRecDepth 100000 in
theorem bfits_any (P : Nat → Prop) (w : World) (b : Bk) (A : Option Addr) (N c : Nat) (hb : BkI b) (hr : kSe.row w P A N b.secs) (hL : EnvW w) :
    Calls Tryz.prog 85 #[.agg #[.int .i64 b.ms, .int .i64 b.ht, .slice A N c]] w (FitPost w b.ms b.ht A N c (pagesB b).length) := by
  have HPG := Lib.hid (fun X (hX : Ext w X) => pages_any P X b A N c hb (Lay.row_ext hr hX) (hL.ext hX))
  clear hb hr hL
  go_enter Tryz.func85, Tryz.ntmps85
  go_upto_region 1 with (fail)
  obtain ⟨W0, hW0⟩ : ∃ W0, (w.alloc (.cells #[.int .i64 b.ms, .int .i64 b.ht, .slice A N c] 27)).alloc (.cells #[.int .i64 0, .int .i64 0, .slice none 0 0] 27) = W0 := ⟨_, rfl⟩
  obtain ⟨z, hz⟩ : ∃ z, w.heap.size = z := ⟨_, rfl⟩
  have hx0 : Ext w W0 := by rw [← hW0]; exact ((Ext.refl w).alloc _).alloc _
  have hB1 : W0.heap[z]? = some (.cells #[.int .i64 b.ms, .int .i64 b.ht, .slice A N c] 27 (0, 0)) := by rw [← hW0, ← hz, heap_alloc_old _ _ _ (by simp)]; exact heap_alloc_at _ _ _ _ rfl
  have hB2 : W0.heap[z + 1]? = some (.cells #[.int .i64 0, .int .i64 0, .slice none 0 0] 27 (0, 0)) := by rw [← hW0, ← hz]; exact heap_alloc_at _ _ _ _ (by simp)
  rw [hW0, hz]
  have a0 := cell_of hB1 (i := 0) (u := .int .i64 b.ms) rfl
  have a1 := cell_of hB1 (i := 1) (u := .int .i64 b.ht) rfl
  have a2 := cell_of hB1 (i := 2) (u := .slice A N c) rfl
  have HX0 := Lib.hid hx0
  have HB := Lib.hid (And.intro hB1 hB2)
  have HZ := Lib.hid hz
  clear hW0 hz hx0 hB1 hB2
  go_upto_if 7 with (first | (go_at_call 55; refine (HPG.out _ HX0.out).mono ?_; rintro e w1 ⟨Ap, np, cp, rfl, hpc, hp6, hrow, hx1⟩))
  have HE := Lib.hid (Lay.row_len hrow)
  have hB2 := (hx1.block _ (lt_of_block HB.out.2)).trans HB.out.2
  have hB1 := (hx1.block _ (lt_of_block HB.out.1)).trans HB.out.1
  have HX1 := Lib.hid (HX0.out.trans hx1)
  have a0 := cell_of hB1 (i := 0) (u := .int .i64 b.ms) rfl
  have a1 := cell_of hB1 (i := 1) (u := .int .i64 b.ht) rfl
  have a2 := cell_of hB1 (i := 2) (u := .slice A N c) rfl
  have r0 := cell_of hB2 (i := 0) (u := .int .i64 0) rfl
  have r1 := cell_of hB2 (i := 1) (u := .int .i64 0) rfl
  have r2 := cell_of hB2 (i := 2) (u := .slice none 0 0) rfl
  have f0 := frozen_of hB2 0
  have f1 := frozen_of hB2 1
  have f2 := frozen_of hB2 2
  have HB2 := Lib.hid hB2
  clear hrow hx1 hB1 hB2 hpc HX0 HB HPG
  by_cases hc : 16384 < np
  · have hcI : (16384 : Int) < (np : Int) := by omega
    go_wp2_with fail
    have hs := st3 HB2.out (.int .i64 0) (.int .i64 0) (.slice none 0 0)
    have q0 := cell_of hs (i := 0) rfl
    have q1 := cell_of hs (i := 1) rfl
    have q2 := cell_of hs (i := 2) rfl
    refine bodyPost_ret (v := .tuple #[.agg #[.int .i64 0, .int .i64 0, .slice none 0 0], .int .i64 2]) (by simp [results, Tryz.results85, go_sem, q0, q1, q2]) rfl ?_
    exact ⟨ext3 HX1.out (by have := HZ.out; omega) _ _ _, .inr ⟨by have := HE.out; omega, rfl⟩⟩
  · have hcI : ¬ (16384 : Int) < (np : Int) := by omega
    go_wp2_with fail
    have hs := st3 HB2.out (.int .i64 b.ms) (.int .i64 b.ht) (.slice A N c)
    have q0 := cell_of hs (i := 0) rfl
    have q1 := cell_of hs (i := 1) rfl
    have q2 := cell_of hs (i := 2) rfl
    refine bodyPost_ret (v := .tuple #[.agg #[.int .i64 b.ms, .int .i64 b.ht, .slice A N c], .int .i64 0]) (by simp [results, Tryz.results85, go_sem, q0, q1, q2]) rfl ?_
    exact ⟨ext3 HX1.out (by have := HZ.out; omega) _ _ _, .inl ⟨by have := HE.out; omega, rfl⟩⟩
end
section
open Go Go.RowKit

def frzIn (b : Bk) (e : Int) : Bool := b.secs.any fun x => x.ent == e && x.fz
def ofP (b : Bk) (br e v wd : Int) : Option (Int × Int × Nat) := if br < 0 ∨ 256 ≤ br ∨ frzIn b e = false then none else whereP b e v wd
/-- The result's cells. -/
structure CiR (z : Nat) (W : World) : Prop where
  c0 : W.cell? ⟨z, 0, none⟩ = some (.int .i64 0)
  c1 : W.cell? ⟨z, 1, none⟩ = some (.int .i64 0)
  c2 : W.cell? ⟨z, 2, none⟩ = some (.int .i64 0)
  c3 : W.cell? ⟨z, 3, none⟩ = some (.int .i64 0)
  f0 : W.frozen? ⟨z, 0, none⟩ = false
  f1 : W.frozen? ⟨z, 1, none⟩ = false
  f2 : W.frozen? ⟨z, 2, none⟩ = false
  f3 : W.frozen? ⟨z, 3, none⟩ = false
  lt : z < W.heap.size
  ne : ¬ z = W.heap.size
theorem CiR.of {z : Nat} {W : World} (h : W.heap[z]? = some (.cells #[.int .i64 0, .int .i64 0, .int .i64 0, .int .i64 0] 69 (0, 0))) : CiR z W :=
  ⟨cell_of h (i := 0) rfl, cell_of h (i := 1) rfl, cell_of h (i := 2) rfl, cell_of h (i := 3) rfl, frozen_of h 0, frozen_of h 1, frozen_of h 2, frozen_of h 3, lt_of_block h, by have := lt_of_block h; omega⟩
end
end Go.Proofs.YtdbnddmncbjobaaGreatDoor