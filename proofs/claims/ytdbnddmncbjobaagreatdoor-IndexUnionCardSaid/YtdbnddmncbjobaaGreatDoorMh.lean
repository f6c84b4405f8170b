/- slices.AppendSeq at book.all's iterator, slices.Collect, book.Pages: walked. -/
import Derived.Test.YtdbnddmncbjobaaGreatDoorMg
import Derived.Test.YtdbnddmncbjobaaGreatDoorMe
import Derived.Deep.RegionHeld3
import Derived.Deep.RegionLaw
import Derived.StillTailTactics
import Derived.Test.YtdbnddmncbjobaaGreatDoorMa
import Derived.Test.YtdbnddmncbjobaaGreatDoorMf
namespace Go.Proofs.YtdbnddmncbjobaaGreatDoor
open Go Go.RowKit Go.Shelf
attribute [local go_sem] Oper.semAt_some

theorem wpListIn_append_run {F : Fence} {n : Nat} {P : Program} {w : World} {ops : Array Oper} {rest : List Oper} {o : Oper} {a : Act} {Q : Exit → Act → World → Prop} {s x : Operand} {t : TypeId} {vs vx v' : Value} {w' : World}
    (hr : (Builtin.append_ #[t, t] t #[vs, vx]).run P w = .ok v' w') (hgd : o.guard = none)
    (ho : o.op = .call { callee := .builtin .append, args := #[s, x], argTypes := #[t, t] }) (hty : o.type = t) (hs : a.eval s = vs) (hx : a.eval x = vx)
    (h : wpListIn F n P ops Q rest (a.put o.dst v') w') : wpListIn F n P ops Q (o :: rest) a w := by
  refine wpListIn_plain hgd fun K hK => ?_
  unfold Oper.wpIn
  refine ⟨by simp [Oper.about, ho, resolve, Target.leads, Sem.run_pure], ?_⟩
  rw [Oper.semAt_plain F _ _ (by rw [ho]; intro c hc'; cases hc')]
  rw [← hty] at hr
  simp [execOp, ho, resolve, invoke, builtin, hs, hx, hty, Result.andThen]
  rw [hty] at hr
  simp [hr]
  exact hK _ _ h
def ClPost (w : World) (b : Bk) (e : Ending) (w' : World) : Prop := ∃ A n c, e = .returned (.slice A n c) ∧ n ≤ c ∧ n ≤ 1000000 ∧ kPg.row w' (fun j => w.heap.size ≤ j) A n (pagesB b) ∧ Ext w w'
/-- Between two rounds: the pages that have come are in a row of the call's own. -/
structure ClI (w : World) (D z : Nat) (pre : List PgV) (q : Nat → Prop) (W : World) : Prop where
  x : Ext w W
  s : D + 2 ≤ W.heap.size
  hq : ∀ j, q j → j ≠ z ∧ j ≠ D ∧ j ≠ D + 1
  v : ∃ A n c, n = pre.length ∧ n ≤ c ∧ W.heap[z]? = some (.cells #[.slice A n c] 106 (0, 0)) ∧ kPg.own 84 W (D + 3) (fun j => D + 3 ≤ j) (.slice A n c) (pre.map (·.1)) ∧ ∀ j, (Value.slice A n c).ownBlock = some j → ¬ q j
theorem ClI.ab {w wl : World} {z : Nat} (hwz : w.heap.size ≤ z) (hz : z < wl.heap.size) : AbMv (wl.heap.size + 2) (ClI w wl.heap.size z) := by
  intro s Q Q' A B h hm hg
  obtain ⟨Ad, n, c, h1, h2, h3, h4, h5⟩ := h.v
  have hlt := Lay.own_lt h4
  have hA := h.s
  refine ⟨hm.ext w (by omega) h.x, Nat.le_trans h.s hm.size, fun j hj => ?_, Ad, n, c, h1, h2, hm.blk (by omega) h3, Lay.own_keep h4 hm.size fun j hj hl => hm.keep j ?_ hl, fun j hj hq => ?_⟩
  · rcases hg j hj with h1 | h1 | h1
    · exact h.hq j h1
    · omega
    · omega
  · rcases hj with hj | hj
    · omega
    · have := hlt j hj; omega
  · have := hlt j hj
    rcases hg j hq with h6 | h6 | h6
    · exact h5 j hj h6
    · omega
    · omega
theorem ClI.put {w wl : World} {z : Nat} (hwz : w.heap.size ≤ z) (hz : z < wl.heap.size) {s : List PgV} {q : Nat → Prop} {W : World} {k : Nat} {o : Obj} (hk : k = wl.heap.size + 1 ∨ k = wl.heap.size) (h : ClI w wl.heap.size z s q W) : ClI w wl.heap.size z s q (W.putObj k o) := by
  obtain ⟨Ad, n, c, h1, h2, h3, h4, h5⟩ := h.v
  have hlt := Lay.own_lt h4
  refine ⟨h.x.putObj (by omega) o, by simpa using h.s, h.hq, Ad, n, c, h1, h2, (World.putObj_heap_other (by omega)).trans h3, Lay.own_keep h4 (by simp) fun j hj _ => World.putObj_heap_other ?_, h5⟩
  rcases hj with hj | hj
  · omega
  · have := hlt j hj; omega
def ClAx (D z zb : Nat) (x : PgV) (_ : Nat → Prop) (a' : Act) (W : World) : Prop :=
  ∃ Bx, D + 2 < Bx ∧ W.heap[Bx]? = some (.cells (pgCells x.1 x.2.1.1 x.2.1.2.1 x.2.1.2.2 x.2.2.1 x.2.2.2.1 x.2.2.2.2) 84 (0, 0)) ∧
    a' = { tmps := #[.slice none 0 0, .func (.func 126) #[] #[.pointer (some ⟨zb, 0, none⟩)], .pointer (some ⟨z, 0, none⟩), undef, .slice none 0 0, .pointer (some ⟨Bx, 0, none⟩), .func (.func 126) #[] #[.pointer (some ⟨zb, 0, none⟩)],
      .agg (pgCells x.1 x.2.1.1 x.2.1.2.1 x.2.1.2.2 x.2.2.1 x.2.2.2.1 x.2.2.2.2), undef, undef, undef, undef, undef], defers := [] }
/-- A page is appended. -/
theorem cl_app {w wl W : World} {z : Nat} {pre : List PgV} {q : Nat → Prop} (hwz : w.heap.size ≤ z) (hz : z < wl.heap.size) (hI : ClI w wl.heap.size z pre q W) {x : PgV} (hrp : pgRp (fun j => (q j ∧ j ≠ wl.heap.size + 2) ∧ wl.heap.size ≤ j) x W) (hqs : ∀ j, q j → j < W.heap.size) (hlen : wl.heap.size + 2 < W.heap.size) (hpl : pre.length < 10000000) :
    ∃ Ad n cc A' n' c' w', W.heap[z]? = some (.cells #[.slice Ad n cc] 106 (0, 0)) ∧ (Builtin.append_ #[106, 106] 106 #[.slice Ad n cc, .slice (some ⟨W.heap.size, 0, none⟩) 1 1]).run Tryz.prog (W.alloc (.cells (pgCells x.1 x.2.1.1 x.2.1.2.1 x.2.1.2.2 x.2.2.1 x.2.2.2.1 x.2.2.2.2) 84)) = .ok (.slice A' n' c') w' ∧
      w'.heap[z]? = some (.cells #[.slice Ad n cc] 106 (0, 0)) ∧ ((w'.setCell ⟨z, 0, none⟩ (.slice A' n' c')).heap[wl.heap.size + 1]? = W.heap[wl.heap.size + 1]? ∧ (w'.setCell ⟨z, 0, none⟩ (.slice A' n' c')).heap[wl.heap.size]? = W.heap[wl.heap.size]?) ∧ (∀ j, q j → (w'.setCell ⟨z, 0, none⟩ (.slice A' n' c')).heap[j]? = W.heap[j]?) ∧ ClI w wl.heap.size z (pre ++ [x]) q (w'.setCell ⟨z, 0, none⟩ (.slice A' n' c')) := by
  obtain ⟨Ad, n, cc, h1, h2, h3, h4, h5⟩ := hI.v
  obtain ⟨pg, ⟨A7, n7, c7⟩, ⟨A8, n8, c8⟩⟩ := x
  obtain ⟨k1, k2, k3, k4, _⟩ := hrp
  dsimp only at k1 k2 k3 k4
  have hsub : ∀ j, ((q j ∧ j ≠ wl.heap.size + 2) ∧ wl.heap.size ≤ j) → j < W.heap.size → wl.heap.size + 3 ≤ j ∧ (Value.slice Ad n cc).ownBlock ≠ some j := fun j hj _ => by
    have := hI.hq j hj.1.1
    exact ⟨by omega, fun e => h5 j e hj.1.1⟩
  have hlt := Lay.own_lt h4
  obtain ⟨A', c', w', r1, r2, r3, r4, r5, r6⟩ := own_app1 (k := kPg) (Pr := Tryz.prog) (t := 106) Tryz.underlying106 info84 rfl (by decide) (by omega) h4 (by omega) (cs := pgCells pg A7 n7 c7 A8 n8 c8) (T := 84) (x := pg) (kPg_rep.2 ⟨A7, n7, c7, A8, n8, c8, rfl, k1, k2, Lay.row_mono k3 hsub, Lay.row_mono k4 hsub⟩) 1 (by rw [List.length_map]; omega)
  have hw : ∀ j, j < W.heap.size → (Value.slice Ad n cc).ownBlock ≠ some j → j ≠ z → (w'.setCell ⟨z, 0, none⟩ (.slice A' ((pre.map (·.1)).length + 1) c')).heap[j]? = W.heap[j]? := fun j hj ho hz => (heap_setCell_other _ ⟨z, 0, none⟩ j _ hz).trans (r4 j hj ho)
  have hzW := lt_of_block h3
  have hzo : (Value.slice Ad n cc).ownBlock ≠ some z := fun e => by have := hlt z e; omega
  have hz' : w'.heap[z]? = some (.cells #[.slice Ad n cc] 106 (0, 0)) := (r4 z hzW hzo).trans h3
  have hlt' := Lay.own_lt r2
  refine ⟨Ad, n, cc, A', _, c', w', h3, r1, hz', ⟨hw _ (by omega) (fun e => by have := hlt _ e; omega) (by omega), hw _ (by omega) (fun e => by have := hlt _ e; omega) (by omega)⟩, fun j hj => hw j (hqs j hj) (fun e => h5 j e hj) (hI.hq j hj).1, ?_⟩
  refine ⟨Ext.setCell (p := ⟨z, 0, none⟩) (Below.trans hI.x (r3 _ (by have := hI.x.lt; omega))) hwz _, by have := hI.s; simp; omega, hI.hq, A', (pre.map (·.1)).length + 1, c', by simp, ?_, ?_, ?_, fun j hj hq => ?_⟩
  · obtain ⟨A9, c9, e9, h9, _⟩ := Lay.own_row r2
    obtain ⟨_, e2, e3⟩ := Value.slice.inj e9
    rw [e2, e3]; exact h9
  · rw [heap_setCell_same _ z 0 _ 106 _ hz']; rfl
  · rw [List.map_append]
    exact Lay.own_keep r2 (by simp) fun j hj _ => heap_setCell_other _ ⟨z, 0, none⟩ j _ (by
      rcases hj with hj | hj
      · show j ≠ z; omega
      · have := hlt' j hj; show j ≠ z; omega)
  · rcases r6 j hj with h6 | h6
    · exact h5 j h6 hq
    · have := hqs j hq; omega
set_option maxHeartbeats 4000000 in
set_option maxRecDepth 100000 in
theorem appseq_any (P : Nat → Prop) (w : World) (b : Bk) (zb : Nat) (A : Option Addr) (N c : Nat) (hb : BkI b) (hB : w.heap[zb]? = some (.cells #[.int .i64 b.ms, .int .i64 b.ht, .slice A N c] 27 (0, 0))) (hr : kSe.row w P A N b.secs) (hL : EnvW w) :
    Calls Tryz.prog 139 #[.slice none 0 0, .func (.func 126) #[] #[.pointer (some ⟨zb, 0, none⟩)]] w (ClPost w b) := by
  refine (callsIn_wide (n := 5)).1 ?_
  refine callsIn_of_wp_marks Tryz.func139 rfl trivial ?_ rfl
  simp only [Tryz.ntmps139, List.size_toArray, List.length_cons, List.length_nil, Nat.reduceAdd, Nat.reduceSub, Array.replicate_succ, Array.replicate_zero, List.push_toArray, List.append_toArray, List.nil_append, List.cons_append]
  refine wpIn_wide.2 ?_
  go_wp2_with fail
  obtain ⟨wl, hwl⟩ : ∃ wl, w.alloc (.cells #[.slice none 0 0] 106) = wl := ⟨_, rfl⟩
  obtain ⟨z, hz⟩ : ∃ z, w.heap.size = z := ⟨_, rfl⟩
  rw [hwl, hz]
  have hsz : wl.heap.size = z + 1 := by rw [← hwl, ← hz]; simp
  have hxl : Ext w wl := by rw [← hwl]; exact (Ext.refl w).alloc _
  have hZ : wl.heap[z]? = some (.cells #[.slice none 0 0] 106 (0, 0)) := by rw [← hwl, ← hz]; exact heap_alloc_at _ _ _ _ rfl
  have hzl := lt_of_block hB
  have HSEQ := all1_seq 4 wl b zb A N c (fun j => j < w.heap.size) hb (fun j hj => by omega) hL.lt4 hzl ((hxl.block _ hzl).trans hB) (Lay.row_ext (Lay.row_mono (Q := fun j => j < w.heap.size) hr fun j _ hl => hl) hxl) (hL.ext hxl)
  have HNP := Lib.hid hb.np
  clear hwl hzl hB hr hL hb
  refine (wpIn_wide (n := 5)).1 ?_
  refine rangeH (n := 5) rfl (by omega) (gf := 126) (lb := #[.pointer (some ⟨zb, 0, none⟩)]) rfl trivial (enters_of Tryz.func126 (by kernel_rfl) rfl) HSEQ (fun x => rfl) (fun _ _ _ _ _ => pgRp_put) (ClI w wl.heap.size z) (fun _ _ _ _ => False) (ClI.ab (by omega) (by omega)) (fun _ _ _ _ _ _ h => h.elim)
    (fun s q W o' h => h.put (by omega) (by omega) (.inl rfl)) (fun cc s q W o' h => h) (fun j hj => by omega) (fun s q W h j hj => (h.hq j hj).2) (fun W hx hs => ⟨hxl.trans hx, by omega, fun j hj => by omega, none, 0, 0, rfl, Nat.le_refl _, (hx.block _ (by omega)).trans hZ, Lay.own_nil _ _ _ _ _, fun j hj => by cases hj⟩)
    (ClAx wl.heap.size z zb) (fun _ _ _ _ _ h => ?ap) (fun q x W W' h hx => pgRp_ext h hx) ?assign ?body ?done ?stop
  case ap =>
    obtain ⟨Bx, h1, h2, h3⟩ := h
    exact ⟨Bx, h1, (World.putObj_heap_other (by omega)).trans h2, h3⟩
  case assign =>
    rintro l ⟨pg, ⟨A7, n7, c7⟩, ⟨A8, n8, c8⟩⟩ q W K hrp hlen hqs hK
    dsimp only [pgEnc]
    gi_wp2
    exact hK _ _ ((Ext.refl W).alloc _) ⟨W.heap.size, by omega, heap_alloc_at _ _ _ _ rfl, rfl⟩
  case body =>
    rintro pre x q a' W hI hrp ⟨Bx, hBx, hB, rfl⟩ hqs hlen hsp
    have hpl : pre.length < 10000000 := by
      have h1 := hsp.length_le
      have h2 := HNP.out
      simp only [List.length_map, List.length_append, List.length_cons, List.length_nil] at h1
      omega
    obtain ⟨Ad, n, cc, A', n', c', w', hz1, hrun, hz2, hfin⟩ := cl_app (by omega) (by omega) hI hrp hqs hlen hpl
    obtain ⟨pg, ⟨A7, n7, c7⟩, ⟨A8, n8, c8⟩⟩ := x
    dsimp only [pgCells] at hB hrun hfin ⊢
    have c0 := cell_of hB (i := 0) (u := .int .i64 pg.num) rfl
    have c1 := cell_of hB (i := 1) (u := .int .i64 pg.suf) rfl
    have c2 := cell_of hB (i := 2) (u := .int .i64 pg.ent) rfl
    have c3 := cell_of hB (i := 3) (u := .int .i64 pg.ver) rfl
    have c4 := cell_of hB (i := 4) (u := .slice A7 n7 c7) rfl
    have c5 := cell_of hB (i := 5) (u := .slice A8 n8 c8) rfl
    have s0 := cell_of hz1 (i := 0) (u := .slice Ad n cc) rfl
    have s1 := cell_of hz2 (i := 0) (u := .slice Ad n cc) rfl
    have s2 := frozen_of hz2 0
    have HRUN := Lib.hid hrun
    have HFIN := Lib.hid hfin
    clear hI hrp hqs hB hrun hfin hz1 hz2 HSEQ hsp
    gi_wp2_with (gi_at_builtin; refine wpListIn_append_run (s := .tmp 8) (x := .tmp 10) HRUN.out rfl rfl rfl rfl rfl ?_)
    exact HFIN.out
  case done =>
    intro xs q W hS hI hK
    obtain ⟨Ad, n, cc, hn, hnc, hz1, ho, _⟩ := hI.v
    have s0 := cell_of hz1 (i := 0) (u := .slice Ad n cc) rfl
    have HI := Lib.hid hI
    have HK := Lib.hid hK
    have HO := Lib.hid ho
    have HS := Lib.hid hS
    have HN := Lib.hid (And.intro hn hnc)
    clear hI hK HSEQ ho hS hn hnc hz1
    gi_wp2
    go_wp2_with fail
    obtain ⟨Z, hZ⟩ : ∃ Z, W.putObj wl.heap.size (.deferred none) = Z := ⟨_, rfl⟩
    have hlt := Lay.own_lt HO.out
    have hxZ : Ext w Z := by rw [← hZ]; exact HI.out.x.putObj (by omega) _
    have hoZ : kPg.own 84 Z (wl.heap.size + 3) (fun j => wl.heap.size + 3 ≤ j) (.slice Ad n cc) (xs.map (·.1)) := by
      rw [← hZ]
      exact Lay.own_keep HO.out (by simp) fun j hj _ => World.putObj_heap_other (by
        rcases hj with hj | hj
        · omega
        · have := hlt j hj; omega)
    refine ⟨by simp, .inl ⟨_, _, rfl, run_takeDeferred HK.out, ?_⟩⟩
    rw [hZ]
    refine ⟨.slice Ad n cc, by simp [results, Tryz.results139, go_sem], Ad, n, cc, rfl, HN.out.2, ?_, ?_, hxZ⟩
    · have h1 := HNP.out
      rw [← HS.out, List.length_map] at h1
      have := HN.out.1
      omega
    · obtain ⟨A9, c9, e9, _, h9⟩ := Lay.own_row hoZ
      obtain ⟨e1, e2, _⟩ := Value.slice.inj e9
      rw [← e1, ← e2, HS.out] at h9
      exact Lay.row_mono h9 fun j hj _ => by
        rcases hj with hj | hj
        · omega
        · have := hlt j hj; omega
  case stop =>
    intro cc pre q W hS hX hK
    exact hX.elim
set_option maxHeartbeats 4000000 in
set_option maxRecDepth 100000 in
theorem collect_any (P : Nat → Prop) (w : World) (b : Bk) (zb : Nat) (A : Option Addr) (N c : Nat) (hb : BkI b) (hB : w.heap[zb]? = some (.cells #[.int .i64 b.ms, .int .i64 b.ht, .slice A N c] 27 (0, 0))) (hr : kSe.row w P A N b.secs) (hL : EnvW w) :
    Calls Tryz.prog 109 #[.func (.func 126) #[] #[.pointer (some ⟨zb, 0, none⟩)]] w (ClPost w b) := by
  have HA := Lib.hid (appseq_any P w b zb A N c hb hB hr hL)
  clear hb hB hr hL
  go_enter Tryz.func109, Tryz.ntmps109
  go_wp2_with (first | (go_at_call 139; refine (HA.out).mono ?_; rintro e w1 ⟨A1, n1, c1, rfl, h1⟩))
  go_ret
  exact ⟨A1, n1, c1, rfl, h1⟩
set_option maxHeartbeats 4000000 in
set_option maxRecDepth 100000 in
theorem pages_any (P : Nat → Prop) (w : World) (b : Bk) (A : Option Addr) (N c : Nat) (hb : BkI b) (hr : kSe.row w P A N b.secs) (hL : EnvW w) :
    Calls Tryz.prog 55 #[.agg #[.int .i64 b.ms, .int .i64 b.ht, .slice A N c]] w (ClPost w b) := by
  obtain ⟨W0, hW0⟩ : ∃ W0, w.alloc (.cells #[.int .i64 b.ms, .int .i64 b.ht, .slice A N c] 27) = W0 := ⟨_, rfl⟩
  have hx0 : Ext w W0 := by rw [← hW0]; exact (Ext.refl w).alloc _
  have hx1 : Ext w (W0.alloc (.cells #[.int .i64 b.ms, .int .i64 b.ht, .slice A N c] 27)) := hx0.alloc _
  have HA := Lib.hid (collect_any P (W0.alloc (.cells #[.int .i64 b.ms, .int .i64 b.ht, .slice A N c] 27)) b W0.heap.size A N c hb (heap_alloc_at _ _ _ _ rfl) (Lay.row_ext hr hx1) (hL.ext hx1))
  have a0 : W0.cell? ⟨w.heap.size, 0, none⟩ = some (.int .i64 b.ms) := by rw [← hW0]; exact cell_of (heap_alloc_at w _ _ _ rfl) (i := 0) rfl
  have a1 : W0.cell? ⟨w.heap.size, 1, none⟩ = some (.int .i64 b.ht) := by rw [← hW0]; exact cell_of (heap_alloc_at w _ _ _ rfl) (i := 1) rfl
  have a2 : W0.cell? ⟨w.heap.size, 2, none⟩ = some (.slice A N c) := by rw [← hW0]; exact cell_of (heap_alloc_at w _ _ _ rfl) (i := 2) rfl
  have HX1 := Lib.hid hx1
  clear hb hr hL hx0 hx1
  go_enter Tryz.func55, Tryz.ntmps55
  go_upto_region 1 with (fail)
  clear hW0
  go_wp2_with (first | (go_at_call 73; refine (all_any _ _ _ _ _ _).mono ?_; rintro e w' ⟨rfl, rfl⟩) | (go_at_call 109; refine (HA.out).mono ?_; rintro e w1 ⟨A1, n1, c1, rfl, h1, h2, h3, h4⟩))
  go_ret
  exact ⟨A1, n1, c1, rfl, h1, h2, Lay.row_mono h3 fun j hj _ => Nat.le_trans HX1.out.lt hj, HX1.out.trans h4⟩
end Go.Proofs.YtdbnddmncbjobaaGreatDoor

/- book.wrong, book.fits: walked. -/
namespace Go.Proofs.YtdbnddmncbjobaaGreatDoor
open Go Go.RowKit

theorem OkT.wn {t : Tx} (h : OkT t) : 1 ≤ wordsN (t.paras ++ t.notes) ∧ wordsN (t.paras ++ t.notes) ≤ 1000000 := by
  have hle : ∀ (B : Nat) (l : List (List Wd)), (∀ p ∈ l, p.length ≤ B) → wordsN l ≤ B * l.length := by
    intro B l
    induction l with
    | nil => intro _; simp [wordsN]
    | cons p l ih =>
      intro hl
      have h1 := hl p (by simp)
      have h2 := ih fun q hq => hl q (by simp [hq])
      simp only [wordsN, List.map_cons, List.sum_cons, List.length_cons, Nat.mul_succ] at h2 ⊢
      omega
  have hap : wordsN (t.paras ++ t.notes) = wordsN t.paras + wordsN t.notes := by simp [wordsN]
  have h1 := hle 40 t.paras fun p hp => (h.par.len p hp).2
  have h2 := hle 12 t.notes fun p hp => (h.len p hp).2
  have h3 := h.np
  have h4 := h.nn
  refine ⟨?_, by omega⟩
  cases hp : t.paras with
  | nil => rw [hp] at h3; simp at h3
  | cons p r =>
    have := (h.par.len p (by rw [hp]; simp)).1
    simp only [wordsN, List.cons_append, List.map_cons, List.sum_cons]
    omega
set_option maxHeartbeats 4000000 in
set_option maxRecDepth 100000 in
theorem wrong_ok (P : Nat → Prop) (w : World) (m h : Int) (B : Option Addr) (N k : Nat) (t : Tx) (A A' : Option Addr) (n n' c c' : Nat) (h1 : kWs.row w P A n t.paras) (h2 : kWs.row w P A' n' t.notes) (hT : OkT t) (hm0 : 500 ≤ m) (hm : m ≤ 2000) (hh0 : 4 ≤ h) (hh : h ≤ 100) (hL : EnvW w) :
    Calls Tryz.prog 83 #[.agg #[.int .i64 m, .int .i64 h, .slice B N k], .agg #[.slice A n c, .slice A' n' c']] w (fun e w' => e = .returned (.int .i64 0) ∧ Ext w w') := by
  have HPT := Lib.hid (fun X (hX : Ext w X) => ptext_any P X t m h A A' n n' c c' (Lay.row_ext h1 hX) (Lay.row_ext h2 hX) (txP_of hT hm0 hm hh0 hh) hm0 hm (hL.ext hX))
  have HCO := Lib.hid (fun X (hX : Ext w X) => count_any P X A A' n n' c c' t (Lay.row_ext h1 hX) (Lay.row_ext h2 hX) (by have := hT.np; omega) (by have := hT.nn; omega) hT.wn.2)
  have hw1 := hT.wn.1
  obtain ⟨q, hq⟩ : ∃ q, wordsN (t.paras ++ t.notes) = q := ⟨_, rfl⟩
  rw [hq] at hw1 HCO
  clear h1 h2 hT hL hq
  have hq0 : ((q : Int) == 0) = false := by simp; omega
  go_enter Tryz.func83, Tryz.ntmps83
  go_upto_region 1 with (fail)
  obtain ⟨W0, hW0⟩ : ∃ W0, (w.alloc (.cells #[.int .i64 m, .int .i64 h, .slice B N k] 27)).alloc (.cells #[.slice A n c, .slice A' n' c'] 53) = W0 := ⟨_, rfl⟩
  obtain ⟨z, hz⟩ : ∃ z, w.heap.size = z := ⟨_, rfl⟩
  have hx0 : Ext w W0 := by rw [← hW0]; exact ((Ext.refl w).alloc _).alloc _
  have hB1 : W0.heap[z]? = some (.cells #[.int .i64 m, .int .i64 h, .slice B N k] 27 (0, 0)) := by rw [← hW0, ← hz, heap_alloc_old _ _ _ (by simp)]; exact heap_alloc_at _ _ _ _ rfl
  have hB2 : W0.heap[z + 1]? = some (.cells #[.slice A n c, .slice A' n' c'] 53 (0, 0)) := by rw [← hW0, ← hz]; exact heap_alloc_at _ _ _ _ (by simp)
  rw [hW0, hz]
  have a0 := cell_of hB1 (i := 0) (u := .int .i64 m) rfl
  have a1 := cell_of hB1 (i := 1) (u := .int .i64 h) rfl
  have b0 := cell_of hB2 (i := 0) (u := .slice A n c) rfl
  have b1 := cell_of hB2 (i := 1) (u := .slice A' n' c') rfl
  have HX0 := Lib.hid hx0
  have HB2 := Lib.hid hB2
  clear hW0 hz hx0 hB1 hB2
  go_upto_region 2 with (first | (go_at_call 127; refine (HPT.out _ HX0.out).mono ?_; rintro e w1 ⟨A1, c1, rfl, _, hx1⟩))
  have hB2 := (hx1.block _ (lt_of_block HB2.out)).trans HB2.out
  have b0 := cell_of hB2 (i := 0) (u := .slice A n c) rfl
  have b1 := cell_of hB2 (i := 1) (u := .slice A' n' c') rfl
  have HX1 := Lib.hid (HX0.out.trans hx1)
  clear hx1 hB2 a0 a1 HPT
  go_wp2_with (first | (go_at_call 31; refine (HCO.out _ HX1.out).mono ?_; rintro e w2 ⟨rfl, hx2⟩))
  go_ret
  exact ⟨rfl, HX1.out.trans hx2⟩
def FitPost (w : World) (m h : Int) (A : Option Addr) (N c np : Nat) (e : Ending) (w' : World) : Prop :=
  Ext w w' ∧ ((np ≤ 16384 ∧ e = .returned (.tuple #[.agg #[.int .i64 m, .int .i64 h, .slice A N c], .int .i64 0])) ∨ (16384 < np ∧ e = .returned (.tuple #[.agg #[.int .i64 0, .int .i64 0, .slice none 0 0], .int .i64 2])))
/-- The result of three cells is stored. -/
theorem st3 {W : World} {z : Nat} {a0 a1 a2 : Value} (h : W.heap[z]? = some (.cells #[a0, a1, a2] 27 (0, 0))) (v0 v1 v2 : Value) :
    (((W.setCell ⟨z, 0, none⟩ v0).setCell ⟨z, 1, none⟩ v1).setCell ⟨z, 2, none⟩ v2).heap[z]? = some (.cells #[v0, v1, v2] 27 (0, 0)) :=
  heap_setCell_same _ z 2 _ 27 _ (heap_setCell_same _ z 1 _ 27 _ (heap_setCell_same _ z 0 _ 27 _ h))
theorem ext3 {a W : World} (h : Ext a W) {z : Nat} (hz : a.heap.size ≤ z) (v0 v1 v2 : Value) : Ext a (((W.setCell ⟨z, 0, none⟩ v0).setCell ⟨z, 1, none⟩ v1).setCell ⟨z, 2, none⟩ v2) :=
  ((h.setCell (p := ⟨z, 0, none⟩) hz v0).setCell (p := ⟨z, 1, none⟩) hz v1).setCell (p := ⟨z, 2, none⟩) hz v2
set_option maxHeartbeats 4000000 in
set_option maxRecDepth 100000 in
theorem bfits_any (P : Nat → Prop) (w : World) (b : Bk) (A : Option Addr) (N c : Nat) (hb : BkI b) (hr : kSe.row w P A N b.secs) (hL : EnvW w) :
    Calls Tryz.prog 85 #[.agg #[.int .i64 b.ms, .int .i64 b.ht, .slice A N c]] w (FitPost w b.ms b.ht A N c (pagesB b).length) := by
  have HPG := Lib.hid (fun X (hX : Ext w X) => pages_any P X b A N c hb (Lay.row_ext hr hX) (hL.ext hX))
  clear hb hr hL
  go_enter Tryz.func85, Tryz.ntmps85
  go_upto_region 1 with (fail)
  obtain ⟨W0, hW0⟩ : ∃ W0, (w.alloc (.cells #[.int .i64 b.ms, .int .i64 b.ht, .slice A N c] 27)).alloc (.cells #[.int .i64 0, .int .i64 0, .slice none 0 0] 27) = W0 := ⟨_, rfl⟩
  obtain ⟨z, hz⟩ : ∃ z, w.heap.size = z := ⟨_, rfl⟩
  have hx0 : Ext w W0 := by rw [← hW0]; exact ((Ext.refl w).alloc _).alloc _
  have hB1 : W0.heap[z]? = some (.cells #[.int .i64 b.ms, .int .i64 b.ht, .slice A N c] 27 (0, 0)) := by rw [← hW0, ← hz, heap_alloc_old _ _ _ (by simp)]; exact heap_alloc_at _ _ _ _ rfl
  have hB2 : W0.heap[z + 1]? = some (.cells #[.int .i64 0, .int .i64 0, .slice none 0 0] 27 (0, 0)) := by rw [← hW0, ← hz]; exact heap_alloc_at _ _ _ _ (by simp)
  rw [hW0, hz]
  have a0 := cell_of hB1 (i := 0) (u := .int .i64 b.ms) rfl
  have a1 := cell_of hB1 (i := 1) (u := .int .i64 b.ht) rfl
  have a2 := cell_of hB1 (i := 2) (u := .slice A N c) rfl
  have HX0 := Lib.hid hx0
  have HB := Lib.hid (And.intro hB1 hB2)
  have HZ := Lib.hid hz
  clear hW0 hz hx0 hB1 hB2
  go_upto_if 7 with (first | (go_at_call 55; refine (HPG.out _ HX0.out).mono ?_; rintro e w1 ⟨Ap, np, cp, rfl, hpc, hp6, hrow, hx1⟩))
  have HE := Lib.hid (Lay.row_len hrow)
  have hB2 := (hx1.block _ (lt_of_block HB.out.2)).trans HB.out.2
  have hB1 := (hx1.block _ (lt_of_block HB.out.1)).trans HB.out.1
  have HX1 := Lib.hid (HX0.out.trans hx1)
  have a0 := cell_of hB1 (i := 0) (u := .int .i64 b.ms) rfl
  have a1 := cell_of hB1 (i := 1) (u := .int .i64 b.ht) rfl
  have a2 := cell_of hB1 (i := 2) (u := .slice A N c) rfl
  have r0 := cell_of hB2 (i := 0) (u := .int .i64 0) rfl
  have r1 := cell_of hB2 (i := 1) (u := .int .i64 0) rfl
  have r2 := cell_of hB2 (i := 2) (u := .slice none 0 0) rfl
  have f0 := frozen_of hB2 0
  have f1 := frozen_of hB2 1
  have f2 := frozen_of hB2 2
  have HB2 := Lib.hid hB2
  clear hrow hx1 hB1 hB2 hpc HX0 HB HPG
  by_cases hc : 16384 < np
  · have hcI : (16384 : Int) < (np : Int) := by omega
    go_wp2_with fail
    have hs := st3 HB2.out (.int .i64 0) (.int .i64 0) (.slice none 0 0)
    have q0 := cell_of hs (i := 0) rfl
    have q1 := cell_of hs (i := 1) rfl
    have q2 := cell_of hs (i := 2) rfl
    refine bodyPost_ret (v := .tuple #[.agg #[.int .i64 0, .int .i64 0, .slice none 0 0], .int .i64 2]) (by simp [results, Tryz.results85, go_sem, q0, q1, q2]) rfl ?_
    exact ⟨ext3 HX1.out (by have := HZ.out; omega) _ _ _, .inr ⟨by have := HE.out; omega, rfl⟩⟩
  · have hcI : ¬ (16384 : Int) < (np : Int) := by omega
    go_wp2_with fail
    have hs := st3 HB2.out (.int .i64 b.ms) (.int .i64 b.ht) (.slice A N c)
    have q0 := cell_of hs (i := 0) rfl
    have q1 := cell_of hs (i := 1) rfl
    have q2 := cell_of hs (i := 2) rfl
    refine bodyPost_ret (v := .tuple #[.agg #[.int .i64 b.ms, .int .i64 b.ht, .slice A N c], .int .i64 0]) (by simp [results, Tryz.results85, go_sem, q0, q1, q2]) rfl ?_
    exact ⟨ext3 HX1.out (by have := HZ.out; omega) _ _ _, .inl ⟨by have := HE.out; omega, rfl⟩⟩
end Go.Proofs.YtdbnddmncbjobaaGreatDoor

/- cite.Of: walked. -/
namespace Go.Proofs.YtdbnddmncbjobaaGreatDoor
open Go Go.RowKit

def frzIn (b : Bk) (e : Int) : Bool := b.secs.any fun x => x.ent == e && x.fz
def ofP (b : Bk) (br e v wd : Int) : Option (Int × Int × Nat) := if br < 0 ∨ 256 ≤ br ∨ frzIn b e = false then none else whereP b e v wd
/-- The result's cells. -/
structure CiR (z : Nat) (W : World) : Prop where
  c0 : W.cell? ⟨z, 0, none⟩ = some (.int .i64 0)
  c1 : W.cell? ⟨z, 1, none⟩ = some (.int .i64 0)
  c2 : W.cell? ⟨z, 2, none⟩ = some (.int .i64 0)
  c3 : W.cell? ⟨z, 3, none⟩ = some (.int .i64 0)
  f0 : W.frozen? ⟨z, 0, none⟩ = false
  f1 : W.frozen? ⟨z, 1, none⟩ = false
  f2 : W.frozen? ⟨z, 2, none⟩ = false
  f3 : W.frozen? ⟨z, 3, none⟩ = false
  lt : z < W.heap.size
  ne : ¬ z = W.heap.size
theorem CiR.of {z : Nat} {W : World} (h : W.heap[z]? = some (.cells #[.int .i64 0, .int .i64 0, .int .i64 0, .int .i64 0] 69 (0, 0))) : CiR z W :=
  ⟨cell_of h (i := 0) rfl, cell_of h (i := 1) rfl, cell_of h (i := 2) rfl, cell_of h (i := 3) rfl, frozen_of h 0, frozen_of h 1, frozen_of h 2, frozen_of h 3, lt_of_block h, by have := lt_of_block h; omega⟩
end Go.Proofs.YtdbnddmncbjobaaGreatDoor

/- cite.Find: walked. -/
namespace Go.Proofs.YtdbnddmncbjobaaGreatDoor
open Go Go.RowKit

/-- The page and the line of a citation. -/
def citP (b : Bk) (n s line : Int) : Option (Pg × Ln) := (pageP b n s).bind fun p => if line < 1 then none else ((p.body ++ p.nts)[(line - 1).toNat]?).map fun x => (p, x)
/-- The results' cells. -/
structure FiR (z2 z3 : Nat) (W : World) : Prop where
  h2 : W.heap[z2]? = some (.cells #[.int .i64 0, .int .i64 0, .int .i64 0, .int .i64 0, .slice none 0 0, .slice none 0 0] 84 (0, 0))
  h3 : W.heap[z3]? = some (.cells #[.int .i64 0, .int .i64 0, .slice none 0 0, .slice none 0 0] 86 (0, 0))
theorem FiR.ext {z2 z3 : Nat} {W W' : World} (h : FiR z2 z3 W) (hx : Ext W W') : FiR z2 z3 W' := ⟨(hx.block _ (lt_of_block h.h2)).trans h.h2, (hx.block _ (lt_of_block h.h3)).trans h.h3⟩
end Go.Proofs.YtdbnddmncbjobaaGreatDoor

/- rollbookref28.Book: walked. -/
namespace Go.Proofs.YtdbnddmncbjobaaGreatDoor
open Go Go.RowKit

end Go.Proofs.YtdbnddmncbjobaaGreatDoor

/- The law's words and place: walked. -/
namespace Go.Proofs.YtdbnddmncbjobaaGreatDoor
open Go Go.RowKit

end Go.Proofs.YtdbnddmncbjobaaGreatDoor

/- cite.Of with one shape of answer; what Freeze leaves. -/
namespace Go.Proofs.YtdbnddmncbjobaaGreatDoor
open Go Go.RowKit

theorem OkB.big {b : Bk} {N V N' V' : Nat} (h : OkB b N V) (hN : N ≤ N') (hV : V ≤ V') : OkB b N' V' :=
  ⟨h.m0, h.m1, h.h0, h.h1, Nat.le_trans h.n hN, fun x hx => ⟨(h.vs x hx).1, (h.vs x hx).2.1, Nat.le_trans (h.vs x hx).2.2 hV⟩, h.tx, h.ent⟩
end Go.Proofs.YtdbnddmncbjobaaGreatDoor

/- What CiteLeads asks: plain. -/
namespace Go.Proofs.YtdbnddmncbjobaaGreatDoor
open Go Go.RowKit

theorem pagesT_all (R : List Ln → List Ln → Prop) (ent ver : Int) (first : Bool) : ∀ (ps : List (List Ln × List Ln)) (n s : Int), (∀ q ∈ ps, R q.1 q.2) → ∀ p ∈ (pagesT ent ver first ps n s).1, R p.body p.nts := by
  intro ps
  induction ps with
  | nil => intro n s _ p hp; simp [pagesT] at hp
  | cons a ps ih =>
    intro n s h p hp
    simp only [pagesT] at hp
    rcases List.mem_cons.1 hp with rfl | hp
    · exact h a (by simp)
    · exact ih _ _ (fun q hq => h q (by simp [hq])) p hp
theorem pagesV_all (R : List Ln → List Ln → Prop) (m h ent : Int) : ∀ (vs : List Int) (ts : List Tx) (f : Bool) (n s : Int), (∀ t ∈ ts, ∀ q ∈ (textP t m h).2, R q.1 q.2) → ∀ p ∈ (pagesV m h ent vs ts f n s).1, R p.body p.nts := by
  intro vs
  induction vs with
  | nil => intro ts f n s _ p hp; simp [pagesV] at hp
  | cons v vs ih =>
    intro ts f n s hk p hp
    cases ts with
    | nil => simp [pagesV] at hp
    | cons t ts =>
      simp only [pagesV] at hp
      rcases List.mem_append.1 hp with hp | hp
      · exact pagesT_all R _ _ _ _ _ _ (hk t (by simp)) p hp
      · exact ih ts _ _ _ (fun t ht => hk t (by simp [ht])) p hp
theorem pagesS_all (R : List Ln → List Ln → Prop) (m h : Int) : ∀ (l : List Se) (n : Int), (∀ x ∈ l, ∀ t ∈ x.texts, ∀ q ∈ (textP t m h).2, R q.1 q.2) → ∀ p ∈ pagesS m h l n, R p.body p.nts := by
  intro l
  induction l with
  | nil => intro n _ p hp; simp [pagesS] at hp
  | cons x l ih =>
    intro n hk p hp
    simp only [pagesS] at hp
    rcases List.mem_append.1 hp with hp | hp
    · exact pagesV_all R _ _ _ _ _ _ _ _ (hk x (by simp)) p hp
    · exact ih _ (fun y hy => hk y (by simp [hy])) p hp
theorem OkB.hgt {b : Bk} {N V : Nat} (h : OkB b N V) : ∀ p ∈ pagesB b, (p.body ++ p.nts).length ≤ 100 := by
  intro p hp
  have := pagesS_all (fun x y => x.length + y.length ≤ 100) b.ms b.ht b.secs 0 (fun x hx t ht q hq => by
    have h9 := (textP_ok (h.tx x hx t ht) h.m0 h.m1 h.h0 h.h1).2.2.2 q hq
    have := h.h1
    show q.1.length + q.2.length ≤ 100
    omega) p hp
  rw [List.length_append]
  exact this
end Go.Proofs.YtdbnddmncbjobaaGreatDoor

/- What is added, corrected, struck and frozen, in plain Lean: the books of CiteKeeps. -/
namespace Go.Proofs.YtdbnddmncbjobaaGreatDoor

def addP (b : Bk) (e v : Int) (t : Tx) : Bk := { b with secs := b.secs ++ [⟨e, false, [v], [t]⟩] }
theorem OkB.add {b : Bk} {N V : Nat} (h : OkB b N V) (hV : 1 ≤ V) {e : Int} (v : Int) {t : Tx} (ht : OkT t) (hn : ∀ y ∈ b.secs, y.ent ≠ e) : OkB (addP b e v t) (N + 1) V := by
  refine ⟨h.m0, h.m1, h.h0, h.h1, by have := h.n; simp [addP]; omega, fun x hx => ?_, fun x hx => ?_, ?_⟩
  · simp only [addP, List.mem_append, List.mem_singleton] at hx
    rcases hx with hx | rfl
    · exact h.vs x hx
    · exact ⟨rfl, by simp, hV⟩
  · simp only [addP, List.mem_append, List.mem_singleton] at hx
    rcases hx with hx | rfl
    · exact h.tx x hx
    · intro u hu
      simp only [List.mem_singleton] at hu
      subst hu; exact ht
  · simp only [addP, List.map_append, List.map_cons, List.map_nil]
    rw [List.nodup_append]
    refine ⟨h.ent, by simp, fun a ha b' hb => ?_⟩
    obtain ⟨y, hy, rfl⟩ := List.mem_map.1 ha
    simp only [List.mem_singleton] at hb
    subst hb
    exact hn y hy
/-- The books that operations on a frozen one make. -/
structure KpS (b0 : Bk) (e v : Int) (i : Nat) (b : Bk) : Prop where
  ok : OkB b (4 + i) (3 + i)
  kp : Keeps b0 b e v
  fz : frzIn b e = true
  fa : ∀ x ∈ b.secs, x.ent = e → x.fz = true
theorem KpS.succ {b0 b : Bk} {e v : Int} {i : Nat} (h : KpS b0 e v i b) : KpS b0 e v (i + 1) b := ⟨h.ok.big (by omega) (by omega), h.kp, h.fz, h.fa⟩
theorem OkT.pgs {b : Bk} {N V : Nat} (h : OkB b N V) {t : Tx} (ht : OkT t) : (textP t b.ms b.ht).2 ≠ [] ∧ (textP t b.ms b.ht).2.length ≤ 200 := by
  have := textP_ok ht h.m0 h.m1 h.h0 h.h1
  exact ⟨this.2.1, this.2.2.1⟩
theorem KpS.add {b0 b : Bk} {e v : Int} {i : Nat} (h : KpS b0 e v i b) {e' : Int} (v' : Int) {t : Tx} (ht : OkT t) (hn : ∀ y ∈ b.secs, y.ent ≠ e') : KpS b0 e v (i + 1) (addP b e' v' t) := by
  have h1 := (h.ok.big (N' := 4 + i) (V' := 3 + (i + 1)) (by omega) (by omega)).add (by omega) v' ht hn
  refine ⟨by rw [show 4 + (i + 1) = 4 + i + 1 by omega]; exact h1, h.kp.trans (keeps_add h.ok.okK e v ⟨e', false, [v'], [t]⟩ ⟨200, fun u hu => ?_⟩ ⟨by simp, rfl⟩ hn), ?_, fun x hx he => ?_⟩
  · simp only [List.mem_singleton] at hu
    subst hu
    exact OkT.pgs h.ok ht
  · have := h.fz
    unfold frzIn at this ⊢
    simp only [addP, List.any_append, this, Bool.true_or]
  · simp only [addP, List.mem_append, List.mem_singleton] at hx
    rcases hx with hx | rfl
    · exact h.fa x hx he
    · exfalso
      have h2 := h.fz
      unfold frzIn at h2
      rw [List.any_eq_true] at h2
      obtain ⟨y, hy, h3⟩ := h2
      simp only [Bool.and_eq_true, beq_iff_eq] at h3
      exact hn y hy (h3.1.trans he.symm)
theorem KpS.start {b : Bk} (h : OkB b 4 3) (hf : ∀ x ∈ b.secs, x.fz = true) {br e v wd : Int} {y : Int × Int × Nat} (ho : ofP b br e v wd = some y) : KpS b e v 0 b := by
  refine ⟨h, Keeps.refl h.okK e v, ?_, fun x hx _ => hf x hx⟩
  unfold ofP at ho
  split at ho
  · cases ho
  · next hc => simp only [not_or] at hc; simpa using hc.2.2
/-- What was cited is cited so, and leads where it led. -/
theorem KpS.of {b0 b : Bk} {e v : Int} {i : Nat} (h : KpS b0 e v i b) {wd n s : Int} {k : Nat} (ho : ofP b0 0 e v wd = some (n, s, k)) : ofP b 0 e v wd = some (n, s, k) := by
  have h1 : whereP b0 e v wd = some (n, s, k) := by
    unfold ofP at ho
    split at ho
    · cases ho
    · exact ho
  unfold ofP
  rw [if_neg (by rw [h.fz]; simp)]
  exact h.kp.place wd _ h1
theorem KpS.find {b0 b : Bk} {e v : Int} {i : Nat} (h : KpS b0 e v i b) {n s line : Int} {p : Pg} {x : Ln} (hc : citP b0 n s line = some (p, x)) : citP b n s line = some (p, x) := by
  unfold citP at hc ⊢
  cases hp : pageP b0 n s with
  | none => rw [hp] at hc; cases hc
  | some q =>
    rw [hp] at hc
    rw [h.kp.page n s q hp]
    exact hc
end Go.Proofs.YtdbnddmncbjobaaGreatDoor

/- book.Add: walked. -/
namespace Go.Proofs.YtdbnddmncbjobaaGreatDoor
open Go Go.RowKit

theorem BkO.own {W : World} {base : Nat} {ls : List Se} {g n : Nat} (h : BkO W base ls g) (hn : n = ls.length) (hn2 : n ≤ 1000000) : kSe.own 46 W base (fun q => g < q) (.slice (some ⟨g, 0, none⟩) n n) ls := by
  obtain ⟨ds, h0, h1, h2, h3⟩ := h
  have hl := gcells_len (cf := ccf) ccf_len ds
  refine ⟨ds, ⟨gcells_len ccf_len _, .inr ⟨g, n, _, by rw [h2, hn], h0, h1, by rw [h2, hn]; exact Nat.le_refl _, by simp only [maxLen]; omega, by rw [List.size_toArray, hl, h2, hn], by rw [show (gcells ccf ds).toArray.toList = gcells ccf ds from rfl, List.take_of_length_le (by rw [hl]; exact Nat.le_refl _)]⟩⟩, h2, fun i d x hd hx => ?_⟩
  exact kSe.mono (h3 i d x hd hx) fun q hq _ => ⟨hq, by simp [Value.ownBlock]; omega⟩
/-- The error of Add at a good text. -/
def addE (b : Bk) (e v : Int) (t : Tx) : Int :=
  if 0 ≤ idxI (fun x => x.ent == e) b.secs then 4
  else if (decide (0 ≤ e) && decide (e ≤ 65535)) = false ∨ (decide (0 ≤ v) && decide (v ≤ 2147483647)) = false then 5
  else if 16384 < (pagesB (addP b e v t)).length then 2 else 0
/-- A book, or an error. -/
def OpPost (w : World) (er ms ht : Int) (ls : List Se) (z : Ending) (w' : World) : Prop :=
  Ext w w' ∧ ((er ≠ 0 ∧ z = .returned (.tuple #[.agg #[.int .i64 0, .int .i64 0, .slice none 0 0], .int .i64 er])) ∨
    (er = 0 ∧ ∃ A n c, z = .returned (.tuple #[.agg #[.int .i64 ms, .int .i64 ht, .slice A n c], .int .i64 0]) ∧ n ≤ c ∧ kSe.row w' (fun j => w.heap.size ≤ j) A n ls))
/-- The result's cells. -/
structure BkR (z : Nat) (W : World) : Prop where
  c0 : W.cell? ⟨z, 0, none⟩ = some (.int .i64 0)
  c1 : W.cell? ⟨z, 1, none⟩ = some (.int .i64 0)
  c2 : W.cell? ⟨z, 2, none⟩ = some (.slice none 0 0)
  f0 : W.frozen? ⟨z, 0, none⟩ = false
  f1 : W.frozen? ⟨z, 1, none⟩ = false
  f2 : W.frozen? ⟨z, 2, none⟩ = false
theorem BkR.of {z : Nat} {W : World} (h : W.heap[z]? = some (.cells #[.int .i64 0, .int .i64 0, .slice none 0 0] 27 (0, 0))) : BkR z W :=
  ⟨cell_of h (i := 0) rfl, cell_of h (i := 1) rfl, cell_of h (i := 2) rfl, frozen_of h 0, frozen_of h 1, frozen_of h 2⟩
/-- The book that Add has made, in block zb. -/
def AdC (w w2 : World) (zb n : Nat) (ms ht : Int) (ls : List Se) (wx : World) : Prop := (∀ j, j < w2.heap.size → wx.heap[j]? = w2.heap[j]?) ∧ ∃ A9 c9, wx.heap[zb]? = some (.cells #[.int .i64 ms, .int .i64 ht, .slice A9 n c9] 27 (0, 0)) ∧ n ≤ c9 ∧ kSe.row wx (fun j => w2.heap.size ≤ j) A9 n ls ∧ Ext w wx
/-- append of a section of one version. -/
theorem sec_app {w5 X : World} {base g n : Nat} {ls : List Se} {R : Nat → Prop} (hR : ∀ j, w5.heap.size ≤ j → R j) (h : kSe.own 46 w5 base R (.slice (some ⟨g, 0, none⟩) n n) ls) (hn : n = ls.length) (hn2 : n ≤ 1000000) (hb : base ≤ w5.heap.size) (hg : g < w5.heap.size) (hX : Ext w5 X) {gv gt : Nat} {e v : Int} {t : Tx} {A7 A8 : Option Addr} {n7 c7 n8 c8 : Nat}
    (hgv : X.heap[gv]? = some (.cells #[.int .i64 v] 3 (0, 0))) (hv5 : w5.heap.size ≤ gv) (hgt : X.heap[gt]? = some (.cells #[.slice A7 n7 c7, .slice A8 n8 c8] 53 (0, 0))) (ht5 : w5.heap.size ≤ gt) (h7 : n7 ≤ c7) (h8 : n8 ≤ c8)
    (r7 : kWs.row X (fun j => w5.heap.size ≤ j) A7 n7 t.paras) (r8 : kWs.row X (fun j => w5.heap.size ≤ j) A8 n8 t.notes) :
    ∃ A' c' w', (Builtin.append_ #[25, 25] 25 #[.slice (some ⟨g, 0, none⟩) n n, .slice (some ⟨X.heap.size, 0, none⟩) 1 1]).run Tryz.prog (X.alloc (.cells #[.int .i64 e, .bool false, .slice (some ⟨gv, 0, none⟩) 1 1, .slice (some ⟨gt, 0, none⟩) 1 1] 46)) = .ok (.slice A' (n + 1) c') w' ∧
      kSe.own 46 w' base R (.slice A' (n + 1) c') (ls ++ [⟨e, false, [v], [t]⟩]) ∧ (∀ B, B ≤ base → Below B X w') ∧ (∀ j, j < X.heap.size → j ≠ g → w'.heap[j]? = X.heap[j]?) ∧ X.heap.size ≤ w'.heap.size ∧ (∀ j, (Value.slice A' (n + 1) c').ownBlock = some j → j = g ∨ X.heap.size ≤ j) := by
  have hrv : kInt.row X (fun j => w5.heap.size ≤ j) (some ⟨gv, 0, none⟩) 1 [v] := by
    have ha : Arr X gv [v] := hgv
    exact ha.row _ hv5
  have hrt : kTx.row X (fun j => w5.heap.size ≤ j) (some ⟨gt, 0, none⟩) 1 [t] := by
    have hrep : kTx.rep X (fun j => w5.heap.size ≤ j) t [.slice A7 n7 c7, .slice A8 n8 c8] := kTx_rep.2 ⟨A7, n7, c7, A8, n8, c8, rfl, h7, h8, r7, r8⟩
    obtain ⟨d0, hd0⟩ : ∃ d0 : Cs kTx.sz, ccf d0 = [.slice A7 n7 c7, .slice A8 n8 c8] := mkCs _ (kTx.len hrep) (kTx.one hrep)
    refine ⟨[d0], rfl, rfl, ⟨rfl, fun _ => ⟨gt, 0, rfl, lt_of_block hgt, fun i d hd j u hu => ?_⟩⟩, fun x hx => ?_, fun i d x hd hx => ?_⟩
    · cases i with
      | zero =>
        injection hd with hd
        subst hd
        rw [hd0] at hu
        rw [Nat.zero_mul, Nat.zero_add]
        exact cell_of hgt (by simpa using hu)
      | succ i => cases hd
    · injection hx with hx; subst hx; exact ⟨ht5, lt_of_block hgt⟩
    · cases i with
      | zero =>
        injection hd with hd
        injection hx with hx
        subst hd hx
        show kTx.rep X _ t (ccf d0)
        rw [hd0]; exact hrep
      | succ i => cases hd
  have hsub : ∀ j, w5.heap.size ≤ j → j < X.heap.size → R j ∧ (Value.slice (some ⟨g, 0, none⟩) n n).ownBlock ≠ some j := fun j hj _ => ⟨hR j hj, by simp [Value.ownBlock]; omega⟩
  obtain ⟨A', c', w', r1, r2, r3, r4, r5, r6⟩ := own_app1 (k := kSe) (Pr := Tryz.prog) (t := 25) Tryz.underlying25 info46 rfl (by decide) (by omega) (Lay.own_ext h hX) (Nat.le_trans hb hX.lt) (cs := #[.int .i64 e, .bool false, .slice (some ⟨gv, 0, none⟩) 1 1, .slice (some ⟨gt, 0, none⟩) 1 1]) (T := 46) (x := ⟨e, false, [v], [t]⟩)
    (kSe_rep.2 ⟨_, 1, 1, _, 1, 1, rfl, Nat.le_refl _, Nat.le_refl _, Lay.row_mono hrv hsub, Lay.row_mono hrt hsub⟩) 1 (by omega)
  rw [← hn] at r1 r2 r6
  exact ⟨A', c', w', r1, r2, r3, fun j hj hne => r4 j hj (by simp [Value.ownBlock]; omega), r5, fun j hj => (r6 j hj).imp (fun h => by simpa [Value.ownBlock] using h.symm) id⟩
theorem step_append_tm {P : Program} {w : World} {ys : Nat → Option Bool} {o : Oper} {a : Act} {K : Act → World → Prop} {Q : Exit → Act → World → Prop} {E : Prop} {s x : Operand} {t : TypeId} {vs vx v' : Value} {w' : World}
    (hr : (Builtin.append_ #[t, t] t #[vs, vx]).run P w = .ok v' w') (hgd : o.guard = none)
    (ho : o.op = .call { callee := .builtin .append, args := #[s, x], argTypes := #[t, t] }) (hty : o.type = t) (hs : a.eval s = vs) (hx : a.eval x = vx)
    (h : K (a.put o.dst v') w') : if Region.wanted o ys = true then Oper.wp P o a w K Q else E := by
  have hw : Region.wanted o ys = true := by simp [Region.wanted, hgd]
  rw [if_pos hw]
  unfold Oper.wp execOp
  simp only [ho, hty, resolve, invoke, builtin, Sem.run_bind, Sem.run_pure, Result.andThen_ok, List.map_toArray, List.map_cons, List.map_nil, hs, hx, hr]
  exact h
set_option maxHeartbeats 4000000 in
set_option maxRecDepth 100000 in
theorem add_any (P Q : Nat → Prop) (w : World) (b : Bk) (e v : Int) (t : Tx) (A A3 A4 : Option Addr) (N c n3 c3 n4 c4 : Nat) (hb : BkI b) (hh : 4 ≤ b.ht) (hb2 : ¬ 0 ≤ idxI (fun x => x.ent == e) b.secs → BkI (addP b e v t)) (hT : OkT t) (hr : kSe.row w P A N b.secs) (h3 : kWs.row w Q A3 n3 t.paras) (h4 : kWs.row w Q A4 n4 t.notes) (hL : EnvW w) :
    Calls Tryz.prog 37 #[.agg #[.int .i64 b.ms, .int .i64 b.ht, .slice A N c], .int .i64 e, .int .i64 v, .agg #[.slice A3 n3 c3, .slice A4 n4 c4]] w (OpPost w (addE b e v t) b.ms b.ht (b.secs ++ [⟨e, false, [v], [t]⟩])) := by
  have hN := Lay.row_len hr
  have hN6 : N ≤ 1000000 := by have := hb.s.n; omega
  obtain ⟨r, hri⟩ : ∃ r, idxI (fun x => x.ent == e) b.secs = r := ⟨_, rfl⟩
  obtain ⟨r1, hr1⟩ : ∃ r1, (decide (0 ≤ e) && decide (e ≤ 65535)) = r1 := ⟨_, rfl⟩
  obtain ⟨r2, hr2⟩ : ∃ r2, (decide (0 ≤ v) && decide (v ≤ 2147483647)) = r2 := ⟨_, rfl⟩
  have HFD := Lib.hid (fun X (hX : Ext w X) => (show Calls Tryz.prog 81 #[.agg #[.int .i64 b.ms, .int .i64 b.ht, .slice A N c], .int .i64 e] X (fun z w' => z = .returned (.int .i64 r) ∧ Ext X w') from by rw [← hri]; exact find_any P X b.ms b.ht e b.secs A N c (Lay.row_ext hr hX) hN6))
  have HW1 := Lib.hid (fun X => (show Calls Tryz.prog 82 #[.int .i64 e, .int .i64 0, .int .i64 65535] X (fun z w' => z = .returned (.bool r1) ∧ X = w') from by rw [← hr1]; exact within_any X e 0 65535))
  have HW2 := Lib.hid (fun X => (show Calls Tryz.prog 82 #[.int .i64 v, .int .i64 0, .int .i64 2147483647] X (fun z w' => z = .returned (.bool r2) ∧ X = w') from by rw [← hr2]; exact within_any X v 0 2147483647))
  have HWR := Lib.hid (fun X (hX : Ext w X) => wrong_ok Q X b.ms b.ht A N c t A3 A4 n3 n4 c3 c4 (Lay.row_ext h3 hX) (Lay.row_ext h4 hX) hT hb.m0 hb.m1 hh hb.h.2 (hL.ext hX))
  have HCL := Lib.hid (fun X (hX : Ext w X) => cloned_any P X b A N c (Lay.row_ext hr hX) hb.s)
  have HTX := Lib.hid (fun X (hX : Ext w X) => text_any Q X t A3 A4 n3 n4 c3 c4 (Lay.row_ext h3 hX) (Lay.row_ext h4 hX) (by have := Lay.row_len h3; have := hT.np; omega) (by have := Lay.row_len h4; have := hT.nn; omega) hT.small.len)
  have HFT0 := Lib.hid (fun (h : r < 0) X (hX : Ext w X) (A9 : Option Addr) (c9 : Nat) h9 => bfits_any (fun j => w.heap.size ≤ j) X (addP b e v t) A9 (N + 1) c9 (hb2 (by rw [hri]; omega)) h9 (hL.ext hX))
  have HER := Lib.hid (show addE b e v t = if 0 ≤ r then 4 else if r1 = false ∨ r2 = false then 5 else if 16384 < (pagesB (addP b e v t)).length then 2 else 0 by unfold addE; rw [hri, hr1, hr2])
  obtain ⟨np, hnp⟩ : ∃ np, (pagesB (addP b e v t)).length = np := ⟨_, rfl⟩
  rw [hnp] at HFT0 HER
  have HN := Lib.hid hN
  clear hb hb2 hh hT hr h3 h4 hL hri hr1 hr2 hN hnp
  go_enter Tryz.func37, Tryz.ntmps37
  go_upto_region 1 with (fail)
  obtain ⟨W0, hW0⟩ : ∃ W0, ((w.alloc (.cells #[.int .i64 b.ms, .int .i64 b.ht, .slice A N c] 27)).alloc (.cells #[.slice A3 n3 c3, .slice A4 n4 c4] 53)).alloc (.cells #[.int .i64 0, .int .i64 0, .slice none 0 0] 27) = W0 := ⟨_, rfl⟩
  obtain ⟨z, hz⟩ : ∃ z, w.heap.size = z := ⟨_, rfl⟩
  have hx0 : Ext w W0 := by rw [← hW0]; exact (((Ext.refl w).alloc _).alloc _).alloc _
  have hB0 : W0.heap[z]? = some (.cells #[.int .i64 b.ms, .int .i64 b.ht, .slice A N c] 27 (0, 0)) := by rw [← hW0, ← hz, heap_alloc_old _ _ _ (by simp; omega), heap_alloc_old _ _ _ (by simp)]; exact heap_alloc_at _ _ _ _ rfl
  have hB1 : W0.heap[z + 1]? = some (.cells #[.slice A3 n3 c3, .slice A4 n4 c4] 53 (0, 0)) := by rw [← hW0, ← hz, heap_alloc_old _ _ _ (by simp)]; exact heap_alloc_at _ _ _ _ (by simp)
  have hB2 : W0.heap[z + 1 + 1]? = some (.cells #[.int .i64 0, .int .i64 0, .slice none 0 0] 27 (0, 0)) := by rw [← hW0, ← hz]; exact heap_alloc_at _ _ _ _ (by simp)
  obtain ⟨z2, hz2⟩ : ∃ z2, z + 1 + 1 = z2 := ⟨_, rfl⟩
  obtain ⟨z1, hz1⟩ : ∃ z1, z + 1 = z1 := ⟨_, rfl⟩
  rw [hz2] at hB2
  rw [hz1] at hB1
  rw [hW0, hz, hz2, hz1]
  have HZ := Lib.hid (show w.heap.size = z ∧ z1 = z + 1 ∧ z2 = z + 2 by omega)
  have HX0 := Lib.hid hx0
  have HC := Lib.hid (fun X (hX : Ext W0 X) => (show X.heap[z]? = some (.cells #[.int .i64 b.ms, .int .i64 b.ht, .slice A N c] 27 (0, 0)) ∧ X.heap[z1]? = some (.cells #[.slice A3 n3 c3, .slice A4 n4 c4] 53 (0, 0)) ∧ X.heap[z2]? = some (.cells #[.int .i64 0, .int .i64 0, .slice none 0 0] 27 (0, 0)) from
    ⟨(hX.block _ (lt_of_block hB0)).trans hB0, (hX.block _ (lt_of_block hB1)).trans hB1, (hX.block _ (lt_of_block hB2)).trans hB2⟩))
  have a0 := cell_of hB0 (i := 0) (u := .int .i64 b.ms) rfl
  have a1 := cell_of hB0 (i := 1) (u := .int .i64 b.ht) rfl
  have a2 := cell_of hB0 (i := 2) (u := .slice A N c) rfl
  clear hW0 hz hx0 hB0 hB1 hB2 hz1 hz2
  go_upto_if 15 with (first | (go_at_call 81; refine (HFD.out _ HX0.out).mono ?_; rintro z9 w1 ⟨rfl, hx1⟩))
  have HX1 := Lib.hid hx1
  obtain ⟨k0, k1, k2, j0, j1, j2⟩ := BkR.of (HC.out w1 hx1).2.2
  clear a0 a1 a2 HFD hx1
  by_cases hge : 0 ≤ r
  · have HE := Lib.hid (show addE b e v t = 4 by rw [HER.out, if_pos hge])
    go_wp2_with fail
    have hs := st3 (HC.out w1 HX1.out).2.2 (.int .i64 0) (.int .i64 0) (.slice none 0 0)
    have q0 := cell_of hs (i := 0) rfl
    have q1 := cell_of hs (i := 1) rfl
    have q2 := cell_of hs (i := 2) rfl
    refine bodyPost_ret (v := .tuple #[.agg #[.int .i64 0, .int .i64 0, .slice none 0 0], .int .i64 4]) (by simp [results, Tryz.results37, go_sem, q0, q1, q2]) rfl ?_
    exact ⟨ext3 (HX0.out.trans HX1.out) (by have := HZ.out; omega) _ _ _, .inl ⟨by rw [HE.out]; decide, by rw [HE.out]⟩⟩
  have hge' : ¬ (0 : Int) ≤ r := hge
  have HFT := Lib.hid (HFT0.out (by omega))
  clear HFT0
  have hbad : ∀ (X : World), Ext W0 X → addE b e v t = 5 → Ext w (((X.setCell ⟨z2, 0, none⟩ (.int .i64 0)).setCell ⟨z2, 1, none⟩ (.int .i64 0)).setCell ⟨z2, 2, none⟩ (.slice none 0 0)) := fun X hX _ => ext3 (HX0.out.trans hX) (by have := HZ.out; omega) _ _ _
  have HBAD := Lib.hid hbad
  clear hbad
  cases r1 with
  | false =>
    have HE := Lib.hid (show addE b e v t = 5 by rw [HER.out, if_neg hge, if_pos (.inl rfl)])
    go_wp2_with (first | (go_at_call_of 82 (Value.int IntKind.i64 e); refine (HW1.out _).mono ?_; rintro z9 w2 ⟨rfl, rfl⟩))
    have hs := st3 (HC.out _ HX1.out).2.2 (.int .i64 0) (.int .i64 0) (.slice none 0 0)
    have q0 := cell_of hs (i := 0) rfl
    have q1 := cell_of hs (i := 1) rfl
    have q2 := cell_of hs (i := 2) rfl
    refine bodyPost_ret (v := .tuple #[.agg #[.int .i64 0, .int .i64 0, .slice none 0 0], .int .i64 5]) (by simp [results, Tryz.results37, go_sem, q0, q1, q2]) rfl ?_
    exact ⟨HBAD.out _ HX1.out HE.out, .inl ⟨by rw [HE.out]; decide, by rw [HE.out]⟩⟩
  | true =>
    cases r2 with
    | false =>
      have HE := Lib.hid (show addE b e v t = 5 by rw [HER.out, if_neg hge, if_pos (.inr rfl)])
      go_wp2_with (first | (go_at_call_of 82 (Value.int IntKind.i64 e); refine (HW1.out _).mono ?_; rintro z9 w2 ⟨rfl, rfl⟩) | (go_at_call_of 82 (Value.int IntKind.i64 v); refine (HW2.out _).mono ?_; rintro z9 w2 ⟨rfl, rfl⟩))
      have hs := st3 (HC.out _ HX1.out).2.2 (.int .i64 0) (.int .i64 0) (.slice none 0 0)
      have q0 := cell_of hs (i := 0) rfl
      have q1 := cell_of hs (i := 1) rfl
      have q2 := cell_of hs (i := 2) rfl
      refine bodyPost_ret (v := .tuple #[.agg #[.int .i64 0, .int .i64 0, .slice none 0 0], .int .i64 5]) (by simp [results, Tryz.results37, go_sem, q0, q1, q2]) rfl ?_
      exact ⟨HBAD.out _ HX1.out HE.out, .inl ⟨by rw [HE.out]; decide, by rw [HE.out]⟩⟩
    | true =>
      have HE := Lib.hid (show addE b e v t = if 16384 < np then 2 else 0 by rw [HER.out, if_neg hge, if_neg (by simp)])
      clear HBAD HER k0 k1 k2 j0 j1 j2
      go_upto_if 24 with (first | (go_at_call_of 82 (Value.int IntKind.i64 e); refine (HW1.out _).mono ?_; rintro z9 w2 ⟨rfl, rfl⟩) | (go_at_call_of 82 (Value.int IntKind.i64 v); refine (HW2.out _).mono ?_; rintro z9 w2 ⟨rfl, rfl⟩))
      clear HW1 HW2
      have hc0 := (HC.out w1 HX1.out).1
      have hc1 := (HC.out w1 HX1.out).2.1
      have a0 := cell_of hc0 (i := 0) (u := .int .i64 b.ms) rfl
      have a1 := cell_of hc0 (i := 1) (u := .int .i64 b.ht) rfl
      have a2 := cell_of hc0 (i := 2) (u := .slice A N c) rfl
      have b0 := cell_of hc1 (i := 0) (u := .slice A3 n3 c3) rfl
      have b1 := cell_of hc1 (i := 1) (u := .slice A4 n4 c4) rfl
      clear hc0 hc1
      go_upto_if 30 with (first | (go_at_call 83; refine (HWR.out _ (HX0.out.trans HX1.out)).mono ?_; rintro z9 w2 ⟨rfl, hx2⟩))
      have HX2 := Lib.hid (HX1.out.trans hx2)
      have hc0 := (HC.out w2 HX2.out).1
      have a0 := cell_of hc0 (i := 0) (u := .int .i64 b.ms) rfl
      have a1 := cell_of hc0 (i := 1) (u := .int .i64 b.ht) rfl
      have a2 := cell_of hc0 (i := 2) (u := .slice A N c) rfl
      clear hc0 hx2 HWR HX1 b0 b1
      go_upto_region 9 with (first | (go_at_call 76; refine (HCL.out _ (HX0.out.trans HX2.out)).mono ?_; rintro z9 w3 ⟨g, rfl, hbk, hx3⟩))
      obtain ⟨w5, hw5⟩ : ∃ w5, w3.alloc (.cells #[.int .i64 b.ms, .int .i64 b.ht, .slice (some ⟨g, 0, none⟩) N N] 27) = w5 := ⟨_, rfl⟩
      obtain ⟨zb, hzb⟩ : ∃ z, w3.heap.size = z := ⟨_, rfl⟩
      have hx5 : Ext w3 w5 := by rw [← hw5]; exact (Ext.refl w3).alloc _
      have hB5 : w5.heap[zb]? = some (.cells #[.int .i64 b.ms, .int .i64 b.ht, .slice (some ⟨g, 0, none⟩) N N] 27 (0, 0)) := by rw [← hw5, ← hzb]; exact heap_alloc_at _ _ _ _ rfl
      rw [hw5, hzb]
      have hgl : g < zb := by obtain ⟨ds, _, h1, _⟩ := hbk; have := lt_of_block h1; omega
      have h5s : w5.heap.size = zb + 1 := by rw [← hw5, World.size_alloc, hzb]
      have HOW := Lib.hid (Lay.own_ext (Lay.own_mono (P' := fun q => g < q ∧ q ≠ zb) (hbk.own HN.out (by omega)) (fun q hq hl => ⟨hq, by omega⟩)) hx5)
      have HG := Lib.hid (show w.heap.size ≤ g ∧ w2.heap.size ≤ g from by
        obtain ⟨ds, h0, _⟩ := hbk
        have := (HX0.out.trans HX2.out).lt
        exact ⟨by omega, h0⟩)
      have HX5 := Lib.hid (HX2.out.trans (hx3.trans hx5))
      have HX25 := Lib.hid (hx3.trans hx5)
      have HB5 := Lib.hid hB5
      have HZB := Lib.hid (show g < zb ∧ w5.heap.size = zb + 1 ∧ w2.heap.size ≤ w5.heap.size from ⟨hgl, h5s, (hx3.trans hx5).lt⟩)
      have HQ := Lib.hid (fun X (hX : Ext w5 X) => (show X.cell? ⟨zb, 2, none⟩ = some (.slice (some ⟨g, 0, none⟩) N N) ∧ X.cell? ⟨z1, 0, none⟩ = some (.slice A3 n3 c3) ∧ X.cell? ⟨z1, 1, none⟩ = some (.slice A4 n4 c4) from
        have h1 := (HC.out X (HX5.out.trans hX)).2.1
        ⟨cell_of ((hX.block _ (lt_of_block HB5.out)).trans HB5.out) (i := 2) rfl, cell_of h1 (i := 0) rfl, cell_of h1 (i := 1) rfl⟩))
      clear hw5 hzb hx5 hB5 hgl h5s hbk hx3 a0 a1 a2 HCL
      have HZ1 := Lib.hid (show z1 < w.heap.size + 3 by have := HZ.out; omega)
      have HFIN := Lib.hid (fun (X : World) (hX : Ext w5 X) (A9 : Option Addr) (c9 : Nat) (w9 : World) (ho9 : kSe.own 46 w9 w2.heap.size (fun q => g < q ∧ q ≠ zb) (.slice A9 (N + 1) c9) (b.secs ++ [⟨e, false, [v], [t]⟩])) (hb9 : ∀ B, B ≤ w2.heap.size → Below B X w9) (hk9 : ∀ j, j < X.heap.size → j ≠ g → w9.heap[j]? = X.heap[j]?) (hn9 : ∀ j, (Value.slice A9 (N + 1) c9).ownBlock = some j → j = g ∨ X.heap.size ≤ j) =>
        (show AdC w w2 zb (N + 1) b.ms b.ht (b.secs ++ [⟨e, false, [v], [t]⟩]) ((w9.setCell ⟨zb, 2, none⟩ (.slice A9 (N + 1) c9))) by
          have hzX : zb < X.heap.size := Nat.lt_of_lt_of_le (lt_of_block HB5.out) hX.lt
          have h1 : w9.heap[zb]? = some (.cells #[.int .i64 b.ms, .int .i64 b.ht, .slice (some ⟨g, 0, none⟩) N N] 27 (0, 0)) := (hk9 zb hzX (by have := HZB.out.1; omega)).trans ((hX.block _ (lt_of_block HB5.out)).trans HB5.out)
          have hw2 := (HX0.out.trans HX2.out).lt
          have hzz := HZB.out
          have hgg := HG.out
          have hlt := Lay.own_lt ho9
          refine ⟨fun j hj => (heap_setCell_other _ ⟨zb, 2, none⟩ j _ (by show j ≠ zb; omega)).trans ((hk9 j (by have := hX.lt; omega) (by omega)).trans ((hX.block j (by omega)).trans (HX25.out.block j hj))), A9, c9, heap_setCell_same _ zb 2 _ 27 _ h1, ?_, ?_, ?_⟩
          · obtain ⟨A8, c8, e8, h8, _⟩ := Lay.own_row ho9
            obtain ⟨_, e2, e3⟩ := Value.slice.inj e8
            rw [e2, e3]; exact h8
          · have hz0 := HZ.out
            have ho10 := Lay.own_keep (W' := w9.setCell ⟨zb, 2, none⟩ (.slice A9 (N + 1) c9)) ho9 (by simp) (fun j hj _ => heap_setCell_other _ ⟨zb, 2, none⟩ j _ (by
              rcases hj with hj | hj
              · exact hj.2
              · intro e9
                have := hn9 j hj
                have e9' : j = zb := e9
                omega))
            obtain ⟨A8, c8, e8, _, h8⟩ := Lay.own_row ho10
            obtain ⟨e1, e2, _⟩ := Value.slice.inj e8
            rw [← e1, ← e2] at h8
            exact Lay.row_mono h8 fun j hj _ => by
              rcases hj with hj | hj
              · omega
              · have := hlt j hj; omega
          · exact Ext.setCell (p := ⟨zb, 2, none⟩) (Below.trans ((HX0.out.trans HX5.out).trans hX) (hb9 w.heap.size hw2)) (by show w.heap.size ≤ zb; omega) _))
      have HTX5 := Lib.hid (fun X (hX : Ext w5 X) => HTX.out X ((HX0.out.trans HX5.out).trans hX))
      have HAPP := Lib.hid (fun X (hX : Ext w5 X) (gv gt : Nat) (A7 A8 : Option Addr) (n7 c7 n8 c8 : Nat) h1 h2 h3 h4 h5 h6 h7 h8 => sec_app (R := fun q => g < q ∧ q ≠ zb) (e := e) (v := v) (t := t) (gv := gv) (gt := gt) (A7 := A7) (A8 := A8) (n7 := n7) (c7 := c7) (n8 := n8) (c8 := c8) (fun j hj => by have := HZB.out; omega) HOW.out HN.out (by omega) HZB.out.2.2 (by have := HZB.out; omega) hX h1 h2 h3 h4 h5 h6 h7 h8)
      have HS9 := Lib.hid (fun X (hX : Ext w5 X) (w9 : World) (hk9 : ∀ j, j < X.heap.size → j ≠ g → w9.heap[j]? = X.heap[j]?) => (show w9.cell? ⟨zb, 2, none⟩ = some (.slice (some ⟨g, 0, none⟩) N N) ∧ w9.cell? ⟨z1, 0, none⟩ = some (.slice A3 n3 c3) ∧ w9.cell? ⟨z1, 1, none⟩ = some (.slice A4 n4 c4) by
        have h1 := (HC.out X (HX5.out.trans hX)).2.1
        have h2 := (hX.block _ (lt_of_block HB5.out)).trans HB5.out
        have l1 := lt_of_block h1
        have l2 := lt_of_block h2
        have hzz := HZB.out
        have hgg := HG.out
        have hz0 := HZ.out
        have hxx := HX0.out.lt
        have n1 : z1 ≠ g := by
          have := lt_of_block (HC.out w2 HX2.out).2.1
          omega
        have e1 := (hk9 z1 l1 n1).trans h1
        have e2 := (hk9 zb l2 (by omega)).trans h2
        exact ⟨cell_of e2 (i := 2) rfl, cell_of e1 (i := 0) rfl, cell_of e1 (i := 1) rfl⟩))
      have HTXa := Lib.hid (show Calls Tryz.prog 84 #[.agg #[.slice A3 n3 c3, .slice A4 n4 c4]] w5.drew (fun e w' => ∃ v, e = .returned v ∧ TxV w' (fun j => w5.drew.heap.size ≤ j) t v ∧ Ext w5.drew w') from HTX5.out _ (Ext.refl _).drew)
      have HTXb := Lib.hid (show Calls Tryz.prog 84 #[.agg #[.slice A3 n3 c3, .slice A4 n4 c4]] (w5.alloc (.cells #[.int .i64 v] 3)).drew (fun e w' => ∃ v', e = .returned v' ∧ TxV w' (fun j => (w5.alloc (.cells #[.int .i64 v] 3)).drew.heap.size ≤ j) t v' ∧ Ext (w5.alloc (.cells #[.int .i64 v] 3)).drew w') from HTX5.out _ ((Ext.refl _).alloc _).drew)
      have HAP1 := Lib.hid (fun (wG : World) (hxG : Ext ((w5.alloc (.cells #[.int .i64 v] 3)).drew) wG) (A7 A8 : Option Addr) (n7 c7 n8 c8 : Nat) (h7 : n7 ≤ c7) (h8 : n8 ≤ c8) (hr7 : kWs.row wG (fun j => ((w5.alloc (.cells #[.int .i64 v] 3)).drew).heap.size ≤ j) A7 n7 t.paras) (hr8 : kWs.row wG (fun j => ((w5.alloc (.cells #[.int .i64 v] 3)).drew).heap.size ≤ j) A8 n8 t.notes) =>
        (show ∃ A9 c9 w9, (Builtin.append_ #[25, 25] 25 #[.slice (some ⟨g, 0, none⟩) N N, .slice (some ⟨wG.heap.size + 1, 0, none⟩) 1 1]).run Tryz.prog ((wG.alloc (.cells #[.slice A7 n7 c7, .slice A8 n8 c8] 53)).alloc (.cells #[.int .i64 e, .bool false, .slice (some ⟨w5.heap.size, 0, none⟩) 1 1, .slice (some ⟨wG.heap.size, 0, none⟩) 1 1] 46)) = .ok (.slice A9 (N + 1) c9) w9 ∧ AdC w w2 zb (N + 1) b.ms b.ht (b.secs ++ [⟨e, false, [v], [t]⟩]) (w9.setCell ⟨zb, 2, none⟩ (.slice A9 (N + 1) c9)) ∧
            (w9.cell? ⟨zb, 2, none⟩ = some (.slice (some ⟨g, 0, none⟩) N N) ∧ w9.cell? ⟨z1, 0, none⟩ = some (.slice A3 n3 c3) ∧ w9.cell? ⟨z1, 1, none⟩ = some (.slice A4 n4 c4)) ∧ w9.frozen? ⟨zb, 2, none⟩ = false by
          have hX : Ext w5 (wG.alloc (.cells #[.slice A7 n7 c7, .slice A8 n8 c8] 53)) := (((Ext.refl _).alloc _).drew.trans hxG).alloc _
          have hs5 : w5.drew.heap.size = w5.heap.size := rfl
          have hsx := hxG.lt
          obtain ⟨A9, c9, w9, hrun, ho9, hb9, hk9, hs9, hn9⟩ := HAPP.out (wG.alloc (.cells #[.slice A7 n7 c7, .slice A8 n8 c8] 53)) hX w5.heap.size wG.heap.size A7 A8 n7 c7 n8 c8 ((heap_alloc_old _ _ _ (by simp at hsx; omega)).trans ((hxG.block _ (by simp)).trans (heap_alloc_at w5 _ _ _ rfl))) (Nat.le_refl _) (heap_alloc_at _ _ _ _ rfl) (by simp at hsx; omega) h7 h8
            (Lay.row_mono (Lay.row_ext hr7 ((Ext.refl _).alloc _)) fun j hj _ => by simp at hj; omega) (Lay.row_mono (Lay.row_ext hr8 ((Ext.refl _).alloc _)) fun j hj _ => by simp at hj; omega)
          rw [show (wG.alloc (.cells #[.slice A7 n7 c7, .slice A8 n8 c8] 53)).heap.size = wG.heap.size + 1 by simp] at hrun
          have hzX : zb < (wG.alloc (.cells #[.slice A7 n7 c7, .slice A8 n8 c8] 53)).heap.size := Nat.lt_of_lt_of_le (lt_of_block HB5.out) hX.lt
          have h1 : w9.heap[zb]? = some (.cells #[.int .i64 b.ms, .int .i64 b.ht, .slice (some ⟨g, 0, none⟩) N N] 27 (0, 0)) := (hk9 zb hzX (by have := HZB.out.1; omega)).trans ((hX.block _ (lt_of_block HB5.out)).trans HB5.out)
          exact ⟨A9, c9, w9, hrun, HFIN.out _ hX A9 c9 w9 ho9 hb9 hk9 hn9, HS9.out _ hX w9 hk9, frozen_of h1 2⟩))
      have HAP2 := Lib.hid (fun (wG : World) (hxG : Ext w5.drew wG) (A7 A8 : Option Addr) (n7 c7 n8 c8 : Nat) (h7 : n7 ≤ c7) (h8 : n8 ≤ c8) (hr7 : kWs.row wG (fun j => w5.drew.heap.size ≤ j) A7 n7 t.paras) (hr8 : kWs.row wG (fun j => w5.drew.heap.size ≤ j) A8 n8 t.notes) =>
        (show ∃ A9 c9 w9, (Builtin.append_ #[25, 25] 25 #[.slice (some ⟨g, 0, none⟩) N N, .slice (some ⟨wG.heap.size + 1 + 1, 0, none⟩) 1 1]).run Tryz.prog (((wG.alloc (.cells #[.int .i64 v] 3)).alloc (.cells #[.slice A7 n7 c7, .slice A8 n8 c8] 53)).alloc (.cells #[.int .i64 e, .bool false, .slice (some ⟨wG.heap.size, 0, none⟩) 1 1, .slice (some ⟨(wG.heap.size + 1), 0, none⟩) 1 1] 46)) = .ok (.slice A9 (N + 1) c9) w9 ∧ AdC w w2 zb (N + 1) b.ms b.ht (b.secs ++ [⟨e, false, [v], [t]⟩]) (w9.setCell ⟨zb, 2, none⟩ (.slice A9 (N + 1) c9)) ∧
            (w9.cell? ⟨zb, 2, none⟩ = some (.slice (some ⟨g, 0, none⟩) N N) ∧ w9.cell? ⟨z1, 0, none⟩ = some (.slice A3 n3 c3) ∧ w9.cell? ⟨z1, 1, none⟩ = some (.slice A4 n4 c4)) ∧ w9.frozen? ⟨zb, 2, none⟩ = false by
          have hX : Ext w5 ((wG.alloc (.cells #[.int .i64 v] 3)).alloc (.cells #[.slice A7 n7 c7, .slice A8 n8 c8] 53)) := (((Ext.refl _).drew.trans hxG).alloc _).alloc _
          have hs5 : w5.drew.heap.size = w5.heap.size := rfl
          have hsx := hxG.lt
          obtain ⟨A9, c9, w9, hrun, ho9, hb9, hk9, hs9, hn9⟩ := HAPP.out ((wG.alloc (.cells #[.int .i64 v] 3)).alloc (.cells #[.slice A7 n7 c7, .slice A8 n8 c8] 53)) hX wG.heap.size (wG.heap.size + 1) A7 A8 n7 c7 n8 c8 ((heap_alloc_old _ _ _ (by simp)).trans (heap_alloc_at _ _ _ _ rfl)) (by omega) (heap_alloc_at _ _ _ _ (by simp)) (by omega) h7 h8
            (Lay.row_mono (Lay.row_ext hr7 (((Ext.refl _).alloc _).alloc _)) fun j hj _ => by simp at hj; omega) (Lay.row_mono (Lay.row_ext hr8 (((Ext.refl _).alloc _).alloc _)) fun j hj _ => by simp at hj; omega)
          rw [show ((wG.alloc (.cells #[.int .i64 v] 3)).alloc (.cells #[.slice A7 n7 c7, .slice A8 n8 c8] 53)).heap.size = wG.heap.size + 1 + 1 by simp] at hrun
          have hzX : zb < ((wG.alloc (.cells #[.int .i64 v] 3)).alloc (.cells #[.slice A7 n7 c7, .slice A8 n8 c8] 53)).heap.size := Nat.lt_of_lt_of_le (lt_of_block HB5.out) hX.lt
          have h1 : w9.heap[zb]? = some (.cells #[.int .i64 b.ms, .int .i64 b.ht, .slice (some ⟨g, 0, none⟩) N N] 27 (0, 0)) := (hk9 zb hzX (by have := HZB.out.1; omega)).trans ((hX.block _ (lt_of_block HB5.out)).trans HB5.out)
          exact ⟨A9, c9, w9, hrun, HFIN.out _ hX A9 c9 w9 ho9 hb9 hk9 hn9, HS9.out _ hX w9 hk9, frozen_of h1 2⟩))
      have HAP3 := Lib.hid (fun (wG : World) (hxG : Ext w5.drew wG) (A7 A8 : Option Addr) (n7 c7 n8 c8 : Nat) (h7 : n7 ≤ c7) (h8 : n8 ≤ c8) (hr7 : kWs.row wG (fun j => w5.drew.heap.size ≤ j) A7 n7 t.paras) (hr8 : kWs.row wG (fun j => w5.drew.heap.size ≤ j) A8 n8 t.notes) =>
        (show ∃ A9 c9 w9, (Builtin.append_ #[25, 25] 25 #[.slice (some ⟨g, 0, none⟩) N N, .slice (some ⟨wG.heap.size + 1 + 1, 0, none⟩) 1 1]).run Tryz.prog (((wG.alloc (.cells #[.slice A7 n7 c7, .slice A8 n8 c8] 53)).alloc (.cells #[.int .i64 v] 3)).alloc (.cells #[.int .i64 e, .bool false, .slice (some ⟨(wG.heap.size + 1), 0, none⟩) 1 1, .slice (some ⟨wG.heap.size, 0, none⟩) 1 1] 46)) = .ok (.slice A9 (N + 1) c9) w9 ∧ AdC w w2 zb (N + 1) b.ms b.ht (b.secs ++ [⟨e, false, [v], [t]⟩]) (w9.setCell ⟨zb, 2, none⟩ (.slice A9 (N + 1) c9)) ∧
            (w9.cell? ⟨zb, 2, none⟩ = some (.slice (some ⟨g, 0, none⟩) N N) ∧ w9.cell? ⟨z1, 0, none⟩ = some (.slice A3 n3 c3) ∧ w9.cell? ⟨z1, 1, none⟩ = some (.slice A4 n4 c4)) ∧ w9.frozen? ⟨zb, 2, none⟩ = false by
          have hX : Ext w5 ((wG.alloc (.cells #[.slice A7 n7 c7, .slice A8 n8 c8] 53)).alloc (.cells #[.int .i64 v] 3)) := (((Ext.refl _).drew.trans hxG).alloc _).alloc _
          have hs5 : w5.drew.heap.size = w5.heap.size := rfl
          have hsx := hxG.lt
          obtain ⟨A9, c9, w9, hrun, ho9, hb9, hk9, hs9, hn9⟩ := HAPP.out ((wG.alloc (.cells #[.slice A7 n7 c7, .slice A8 n8 c8] 53)).alloc (.cells #[.int .i64 v] 3)) hX (wG.heap.size + 1) wG.heap.size A7 A8 n7 c7 n8 c8 (heap_alloc_at _ _ _ _ (by simp)) (by omega) ((heap_alloc_old _ _ _ (by simp)).trans (heap_alloc_at _ _ _ _ rfl)) (by omega) h7 h8
            (Lay.row_mono (Lay.row_ext hr7 (((Ext.refl _).alloc _).alloc _)) fun j hj _ => by simp at hj; omega) (Lay.row_mono (Lay.row_ext hr8 (((Ext.refl _).alloc _).alloc _)) fun j hj _ => by simp at hj; omega)
          rw [show ((wG.alloc (.cells #[.slice A7 n7 c7, .slice A8 n8 c8] 53)).alloc (.cells #[.int .i64 v] 3)).heap.size = wG.heap.size + 1 + 1 by simp] at hrun
          have hzX : zb < ((wG.alloc (.cells #[.slice A7 n7 c7, .slice A8 n8 c8] 53)).alloc (.cells #[.int .i64 v] 3)).heap.size := Nat.lt_of_lt_of_le (lt_of_block HB5.out) hX.lt
          have h1 : w9.heap[zb]? = some (.cells #[.int .i64 b.ms, .int .i64 b.ht, .slice (some ⟨g, 0, none⟩) N N] 27 (0, 0)) := (hk9 zb hzX (by have := HZB.out.1; omega)).trans ((hX.block _ (lt_of_block HB5.out)).trans HB5.out)
          exact ⟨A9, c9, w9, hrun, HFIN.out _ hX A9 c9 w9 ho9 hb9 hk9 hn9, HS9.out _ hX w9 hk9, frozen_of h1 2⟩))
      clear HAPP HFIN HS9 HTX5
      go_cut [45] (fun _ wx => AdC w w2 zb (N + 1) b.ms b.ht (b.secs ++ [⟨e, false, [v], [t]⟩]) wx)
      case first =>
        have hS0 : (fun X : World => X.cell? ⟨zb, 2, none⟩ = some (.slice (some ⟨g, 0, none⟩) N N) ∧ X.cell? ⟨z1, 0, none⟩ = some (.slice A3 n3 c3) ∧ X.cell? ⟨z1, 1, none⟩ = some (.slice A4 n4 c4)) w5.drew := HQ.out _ (Ext.refl _).drew
        refine wp_region_E (fun X : World => X.cell? ⟨zb, 2, none⟩ = some (.slice (some ⟨g, 0, none⟩) N N) ∧ X.cell? ⟨z1, 0, none⟩ = some (.slice A3 n3 c3) ∧ X.cell? ⟨z1, 1, none⟩ = some (.slice A4 n4 c4)) (fun _ => True) (fun i => i == 12) (by kernel_rfl) ?_
        refine wpE_takeS (i := 0) (d := some 35) (v := .pointer (some ⟨zb, 2, none⟩)) rfl rfl (by kernel_rfl) (by kernel_rfl) (by kernel_rfl) (by kernel_rfl) (fun _ _ _ h => h) (by rfl) ?hy1 hS0 trivial ?go1
        case hy1 =>
          intro w9 hT9
          clear hT9; go_simp
        (try simp only [Act.put, List.setIfInBounds_toArray, List.set_cons_zero, List.set_cons_succ])
        refine wpE_takeS (i := 1) (d := some 36) (v := .slice (some ⟨g, 0, none⟩) N N) rfl rfl (by kernel_rfl) (by kernel_rfl) (by kernel_rfl) (by kernel_rfl) (fun _ _ _ h => h) (by rfl) ?hy2 hS0 trivial ?go2
        case hy2 =>
          intro w9 hT9
          obtain ⟨y0, y1, y2⟩ := hT9; go_simp
        (try simp only [Act.put, List.setIfInBounds_toArray, List.set_cons_zero, List.set_cons_succ])
        refine wpE_takeS (i := 2) (d := some 37) (v := .int .i64 e) rfl rfl (by kernel_rfl) (by kernel_rfl) (by kernel_rfl) (by kernel_rfl) (fun _ _ _ h => h) (by rfl) ?hy3 hS0 trivial ?go3
        case hy3 =>
          intro w9 hT9
          clear hT9; go_simp
        (try simp only [Act.put, List.setIfInBounds_toArray, List.set_cons_zero, List.set_cons_succ])
        refine wpE_takeS (i := 3) (d := some 38) (v := .int .i64 v) rfl rfl (by kernel_rfl) (by kernel_rfl) (by kernel_rfl) (by kernel_rfl) (fun _ _ _ h => h) (by rfl) ?hy4 hS0 trivial ?go4
        case hy4 =>
          intro w9 hT9
          clear hT9; go_simp
        (try simp only [Act.put, List.setIfInBounds_toArray, List.set_cons_zero, List.set_cons_succ])
        refine wpE_takeS (i := 5) (d := some 40) (v := .agg #[.slice A3 n3 c3, .slice A4 n4 c4]) rfl rfl (by kernel_rfl) (by kernel_rfl) (by kernel_rfl) (by kernel_rfl) (fun _ _ _ h => h) (by rfl) ?hy5 hS0 trivial ?go5
        case hy5 =>
          intro w9 hT9
          obtain ⟨y0, y1, y2⟩ := hT9; go_simp
        (try simp only [Act.put, List.setIfInBounds_toArray, List.set_cons_zero, List.set_cons_succ])
        refine wpE_all (rs := [4, 6]) (by kernel_rfl) (by simp) ?_
        refine AllE.cons rfl (fun K hK => ?_) (AllE.cons rfl (fun K hK => ?_) AllE.nil)
        · skip
          simp only [List.getElem_toArray, List.getElem_cons_succ, List.getElem_cons_zero]
          go_simp
          refine hK.out _ _ ⟨fun _ => (HQ.out _ ((Ext.refl w5).alloc (.cells #[.int .i64 v] 3)).drew), trivial⟩ (fun _ => ?_)
          clear hK K
          have hS0 := (HQ.out _ ((Ext.refl w5).alloc (.cells #[.int .i64 v] 3)).drew)
          (try simp only [Act.put, List.setIfInBounds_toArray, List.set_cons_zero, List.set_cons_succ])
          refine wpE_all (rs := [6]) (by kernel_rfl) (by simp) ?_
          refine AllE.cons rfl (fun K hK => ?_) AllE.nil
          simp only [List.getElem_toArray, List.getElem_cons_succ, List.getElem_cons_zero]
          go_simp
          go_at_call 84
          refine (HTXb.out).mono ?_
          rintro z9 wG ⟨_, rfl, ⟨A7, n7, c7, A8, n8, c8, rfl, h7, h8, hr7, hr8⟩, hxG⟩
          have hcur : Ext w5 wG := ((Ext.refl _).alloc _).drew.trans hxG
          simp only []
          refine hK.out _ _ ⟨fun _ => (HQ.out _ hcur), trivial⟩ (fun _ => ?_)
          clear hK K
          have hS0 := (HQ.out _ hcur)
          (try simp only [Act.put, List.setIfInBounds_toArray, List.set_cons_zero, List.set_cons_succ])
          refine wpE_all (rs := [7]) (by kernel_rfl) (by simp) ?_
          refine AllE.cons rfl (fun K hK => ?_) AllE.nil
          simp only [List.getElem_toArray, List.getElem_cons_succ, List.getElem_cons_zero]
          go_simp
          refine hK.out _ _ ⟨fun _ => (HQ.out _ (hcur.alloc (.cells #[.slice A7 n7 c7, .slice A8 n8 c8] 53))), trivial⟩ (fun _ => ?_)
          clear hK K
          have hS0 := (HQ.out _ (hcur.alloc (.cells #[.slice A7 n7 c7, .slice A8 n8 c8] 53)))
          (try simp only [Act.put, List.setIfInBounds_toArray, List.set_cons_zero, List.set_cons_succ])
          refine wpE_takeS (i := 8) (d := some 43) (v := .agg #[.int .i64 e, .bool false, .slice (some ⟨w5.heap.size, 0, none⟩) 1 1, .slice (some ⟨wG.heap.size, 0, none⟩) 1 1]) rfl rfl (by kernel_rfl) (by kernel_rfl) (by kernel_rfl) (by kernel_rfl) (fun _ _ _ h => h) (by rfl) ?hy6 hS0 trivial ?go6
          case hy6 =>
            intro w9 hT9
            clear hT9; go_simp
          (try simp only [Act.put, List.setIfInBounds_toArray, List.set_cons_zero, List.set_cons_succ])
          refine wpE_all (rs := [9]) (by kernel_rfl) (by simp) ?_
          refine AllE.cons rfl (fun K hK => ?_) AllE.nil
          simp only [List.getElem_toArray, List.getElem_cons_succ, List.getElem_cons_zero]
          go_simp
          refine hK.out _ _ ⟨fun _ => (HQ.out _ ((hcur.alloc (.cells #[.slice A7 n7 c7, .slice A8 n8 c8] 53)).alloc (.cells #[.int .i64 e, .bool false, .slice (some ⟨w5.heap.size, 0, none⟩) 1 1, .slice (some ⟨wG.heap.size, 0, none⟩) 1 1] 46))), trivial⟩ (fun _ => ?_)
          clear hK K
          have hS0 := (HQ.out _ ((hcur.alloc (.cells #[.slice A7 n7 c7, .slice A8 n8 c8] 53)).alloc (.cells #[.int .i64 e, .bool false, .slice (some ⟨w5.heap.size, 0, none⟩) 1 1, .slice (some ⟨wG.heap.size, 0, none⟩) 1 1] 46)))
          (try simp only [Act.put, List.setIfInBounds_toArray, List.set_cons_zero, List.set_cons_succ])
          refine wpE_all (rs := [10]) (by kernel_rfl) (by simp) ?_
          refine AllE.cons rfl (fun K hK => ?_) AllE.nil
          simp only [List.getElem_toArray, List.getElem_cons_succ, List.getElem_cons_zero]
          obtain ⟨A9, c9, w9, hrun, hrel, HS, hf9⟩ := HAP1.out wG hxG A7 A8 n7 c7 n8 c8 h7 h8 hr7 hr8
          have HREL := Lib.hid hrel
          clear hrel
          refine step_append_tm (s := .tmp 36) (x := .tmp 44) hrun rfl rfl rfl rfl rfl ?_
          refine hK.out _ _ ⟨fun _ => HS, trivial⟩ (fun _ => ?_)
          clear hK K
          have hS0 := HS
          (try simp only [Act.put, List.setIfInBounds_toArray, List.set_cons_zero, List.set_cons_succ])
          refine wpE_takeS (i := 11) (d := some 46) (v := .pointer (some ⟨zb, 2, none⟩)) rfl rfl (by kernel_rfl) (by kernel_rfl) (by kernel_rfl) (by kernel_rfl) (fun _ _ _ h => h) (by rfl) ?hy7 hS0 trivial ?go7
          case hy7 =>
            intro w9 hT9
            clear hT9; go_simp
          (try simp only [Act.put, List.setIfInBounds_toArray, List.set_cons_zero, List.set_cons_succ])
          refine wpE_all (rs := [12]) (by kernel_rfl) (by simp) ?_
          refine AllE.cons rfl (fun K hK => ?_) AllE.nil
          simp only [List.getElem_toArray, List.getElem_cons_succ, List.getElem_cons_zero]
          have z5 := HS.1
          go_simp
          refine hK.out _ _ ⟨fun h => absurd h (by simp), trivial⟩ (fun _ => ?_)
          clear hK K
          (try simp only [Act.put, List.setIfInBounds_toArray, List.set_cons_zero, List.set_cons_succ])
          refine wpE_done (by kernel_rfl) ?_ _
          go_wp2_with fail
          go_meet
          case rel => exact HREL.out
        · skip
          simp only [List.getElem_toArray, List.getElem_cons_succ, List.getElem_cons_zero]
          go_simp
          go_at_call 84
          refine (HTXa.out).mono ?_
          rintro z9 wG ⟨_, rfl, ⟨A7, n7, c7, A8, n8, c8, rfl, h7, h8, hr7, hr8⟩, hxG⟩
          have hcur : Ext w5 wG := (Ext.refl _).drew.trans hxG
          simp only []
          refine hK.out _ _ ⟨fun _ => (HQ.out _ hcur), trivial⟩ (fun _ => ?_)
          clear hK K
          have hS0 := (HQ.out _ hcur)
          (try simp only [Act.put, List.setIfInBounds_toArray, List.set_cons_zero, List.set_cons_succ])
          refine wpE_all (rs := [4, 7]) (by kernel_rfl) (by simp) ?_
          refine AllE.cons rfl (fun K hK => ?_) (AllE.cons rfl (fun K hK => ?_) AllE.nil)
          · skip
            simp only [List.getElem_toArray, List.getElem_cons_succ, List.getElem_cons_zero]
            go_simp
            refine hK.out _ _ ⟨fun _ => (HQ.out _ (hcur.alloc (.cells #[.int .i64 v] 3))), trivial⟩ (fun _ => ?_)
            clear hK K
            have hS0 := (HQ.out _ (hcur.alloc (.cells #[.int .i64 v] 3)))
            (try simp only [Act.put, List.setIfInBounds_toArray, List.set_cons_zero, List.set_cons_succ])
            refine wpE_all (rs := [7]) (by kernel_rfl) (by simp) ?_
            refine AllE.cons rfl (fun K hK => ?_) AllE.nil
            simp only [List.getElem_toArray, List.getElem_cons_succ, List.getElem_cons_zero]
            go_simp
            refine hK.out _ _ ⟨fun _ => (HQ.out _ ((hcur.alloc (.cells #[.int .i64 v] 3)).alloc (.cells #[.slice A7 n7 c7, .slice A8 n8 c8] 53))), trivial⟩ (fun _ => ?_)
            clear hK K
            have hS0 := (HQ.out _ ((hcur.alloc (.cells #[.int .i64 v] 3)).alloc (.cells #[.slice A7 n7 c7, .slice A8 n8 c8] 53)))
            (try simp only [Act.put, List.setIfInBounds_toArray, List.set_cons_zero, List.set_cons_succ])
            refine wpE_takeS (i := 8) (d := some 43) (v := .agg #[.int .i64 e, .bool false, .slice (some ⟨wG.heap.size, 0, none⟩) 1 1, .slice (some ⟨wG.heap.size + 1, 0, none⟩) 1 1]) rfl rfl (by kernel_rfl) (by kernel_rfl) (by kernel_rfl) (by kernel_rfl) (fun _ _ _ h => h) (by rfl) ?hy8 hS0 trivial ?go8
            case hy8 =>
              intro w9 hT9
              clear hT9; go_simp
            (try simp only [Act.put, List.setIfInBounds_toArray, List.set_cons_zero, List.set_cons_succ])
            refine wpE_all (rs := [9]) (by kernel_rfl) (by simp) ?_
            refine AllE.cons rfl (fun K hK => ?_) AllE.nil
            simp only [List.getElem_toArray, List.getElem_cons_succ, List.getElem_cons_zero]
            go_simp
            refine hK.out _ _ ⟨fun _ => (HQ.out _ (((hcur.alloc (.cells #[.int .i64 v] 3)).alloc (.cells #[.slice A7 n7 c7, .slice A8 n8 c8] 53)).alloc (.cells #[.int .i64 e, .bool false, .slice (some ⟨wG.heap.size, 0, none⟩) 1 1, .slice (some ⟨wG.heap.size + 1, 0, none⟩) 1 1] 46))), trivial⟩ (fun _ => ?_)
            clear hK K
            have hS0 := (HQ.out _ (((hcur.alloc (.cells #[.int .i64 v] 3)).alloc (.cells #[.slice A7 n7 c7, .slice A8 n8 c8] 53)).alloc (.cells #[.int .i64 e, .bool false, .slice (some ⟨wG.heap.size, 0, none⟩) 1 1, .slice (some ⟨wG.heap.size + 1, 0, none⟩) 1 1] 46)))
            (try simp only [Act.put, List.setIfInBounds_toArray, List.set_cons_zero, List.set_cons_succ])
            refine wpE_all (rs := [10]) (by kernel_rfl) (by simp) ?_
            refine AllE.cons rfl (fun K hK => ?_) AllE.nil
            simp only [List.getElem_toArray, List.getElem_cons_succ, List.getElem_cons_zero]
            obtain ⟨A9, c9, w9, hrun, hrel, HS, hf9⟩ := HAP2.out wG hxG A7 A8 n7 c7 n8 c8 h7 h8 hr7 hr8
            have HREL := Lib.hid hrel
            clear hrel
            refine step_append_tm (s := .tmp 36) (x := .tmp 44) hrun rfl rfl rfl rfl rfl ?_
            refine hK.out _ _ ⟨fun _ => HS, trivial⟩ (fun _ => ?_)
            clear hK K
            have hS0 := HS
            (try simp only [Act.put, List.setIfInBounds_toArray, List.set_cons_zero, List.set_cons_succ])
            refine wpE_takeS (i := 11) (d := some 46) (v := .pointer (some ⟨zb, 2, none⟩)) rfl rfl (by kernel_rfl) (by kernel_rfl) (by kernel_rfl) (by kernel_rfl) (fun _ _ _ h => h) (by rfl) ?hy9 hS0 trivial ?go9
            case hy9 =>
              intro w9 hT9
              clear hT9; go_simp
            (try simp only [Act.put, List.setIfInBounds_toArray, List.set_cons_zero, List.set_cons_succ])
            refine wpE_all (rs := [12]) (by kernel_rfl) (by simp) ?_
            refine AllE.cons rfl (fun K hK => ?_) AllE.nil
            simp only [List.getElem_toArray, List.getElem_cons_succ, List.getElem_cons_zero]
            have z5 := HS.1
            go_simp
            refine hK.out _ _ ⟨fun h => absurd h (by simp), trivial⟩ (fun _ => ?_)
            clear hK K
            (try simp only [Act.put, List.setIfInBounds_toArray, List.set_cons_zero, List.set_cons_succ])
            refine wpE_done (by kernel_rfl) ?_ _
            go_wp2_with fail
            go_meet
            case rel => exact HREL.out
          · skip
            simp only [List.getElem_toArray, List.getElem_cons_succ, List.getElem_cons_zero]
            go_simp
            refine hK.out _ _ ⟨fun _ => (HQ.out _ (hcur.alloc (.cells #[.slice A7 n7 c7, .slice A8 n8 c8] 53))), trivial⟩ (fun _ => ?_)
            clear hK K
            have hS0 := (HQ.out _ (hcur.alloc (.cells #[.slice A7 n7 c7, .slice A8 n8 c8] 53)))
            (try simp only [Act.put, List.setIfInBounds_toArray, List.set_cons_zero, List.set_cons_succ])
            refine wpE_all (rs := [4]) (by kernel_rfl) (by simp) ?_
            refine AllE.cons rfl (fun K hK => ?_) AllE.nil
            simp only [List.getElem_toArray, List.getElem_cons_succ, List.getElem_cons_zero]
            go_simp
            refine hK.out _ _ ⟨fun _ => (HQ.out _ ((hcur.alloc (.cells #[.slice A7 n7 c7, .slice A8 n8 c8] 53)).alloc (.cells #[.int .i64 v] 3))), trivial⟩ (fun _ => ?_)
            clear hK K
            have hS0 := (HQ.out _ ((hcur.alloc (.cells #[.slice A7 n7 c7, .slice A8 n8 c8] 53)).alloc (.cells #[.int .i64 v] 3)))
            (try simp only [Act.put, List.setIfInBounds_toArray, List.set_cons_zero, List.set_cons_succ])
            refine wpE_takeS (i := 8) (d := some 43) (v := .agg #[.int .i64 e, .bool false, .slice (some ⟨wG.heap.size + 1, 0, none⟩) 1 1, .slice (some ⟨wG.heap.size, 0, none⟩) 1 1]) rfl rfl (by kernel_rfl) (by kernel_rfl) (by kernel_rfl) (by kernel_rfl) (fun _ _ _ h => h) (by rfl) ?hy10 hS0 trivial ?go10
            case hy10 =>
              intro w9 hT9
              clear hT9; go_simp
            (try simp only [Act.put, List.setIfInBounds_toArray, List.set_cons_zero, List.set_cons_succ])
            refine wpE_all (rs := [9]) (by kernel_rfl) (by simp) ?_
            refine AllE.cons rfl (fun K hK => ?_) AllE.nil
            simp only [List.getElem_toArray, List.getElem_cons_succ, List.getElem_cons_zero]
            go_simp
            refine hK.out _ _ ⟨fun _ => (HQ.out _ (((hcur.alloc (.cells #[.slice A7 n7 c7, .slice A8 n8 c8] 53)).alloc (.cells #[.int .i64 v] 3)).alloc (.cells #[.int .i64 e, .bool false, .slice (some ⟨wG.heap.size + 1, 0, none⟩) 1 1, .slice (some ⟨wG.heap.size, 0, none⟩) 1 1] 46))), trivial⟩ (fun _ => ?_)
            clear hK K
            have hS0 := (HQ.out _ (((hcur.alloc (.cells #[.slice A7 n7 c7, .slice A8 n8 c8] 53)).alloc (.cells #[.int .i64 v] 3)).alloc (.cells #[.int .i64 e, .bool false, .slice (some ⟨wG.heap.size + 1, 0, none⟩) 1 1, .slice (some ⟨wG.heap.size, 0, none⟩) 1 1] 46)))
            (try simp only [Act.put, List.setIfInBounds_toArray, List.set_cons_zero, List.set_cons_succ])
            refine wpE_all (rs := [10]) (by kernel_rfl) (by simp) ?_
            refine AllE.cons rfl (fun K hK => ?_) AllE.nil
            simp only [List.getElem_toArray, List.getElem_cons_succ, List.getElem_cons_zero]
            obtain ⟨A9, c9, w9, hrun, hrel, HS, hf9⟩ := HAP3.out wG hxG A7 A8 n7 c7 n8 c8 h7 h8 hr7 hr8
            have HREL := Lib.hid hrel
            clear hrel
            refine step_append_tm (s := .tmp 36) (x := .tmp 44) hrun rfl rfl rfl rfl rfl ?_
            refine hK.out _ _ ⟨fun _ => HS, trivial⟩ (fun _ => ?_)
            clear hK K
            have hS0 := HS
            (try simp only [Act.put, List.setIfInBounds_toArray, List.set_cons_zero, List.set_cons_succ])
            refine wpE_takeS (i := 11) (d := some 46) (v := .pointer (some ⟨zb, 2, none⟩)) rfl rfl (by kernel_rfl) (by kernel_rfl) (by kernel_rfl) (by kernel_rfl) (fun _ _ _ h => h) (by rfl) ?hy11 hS0 trivial ?go11
            case hy11 =>
              intro w9 hT9
              clear hT9; go_simp
            (try simp only [Act.put, List.setIfInBounds_toArray, List.set_cons_zero, List.set_cons_succ])
            refine wpE_all (rs := [12]) (by kernel_rfl) (by simp) ?_
            refine AllE.cons rfl (fun K hK => ?_) AllE.nil
            simp only [List.getElem_toArray, List.getElem_cons_succ, List.getElem_cons_zero]
            have z5 := HS.1
            go_simp
            refine hK.out _ _ ⟨fun h => absurd h (by simp), trivial⟩ (fun _ => ?_)
            clear hK K
            (try simp only [Act.put, List.setIfInBounds_toArray, List.set_cons_zero, List.set_cons_succ])
            refine wpE_done (by kernel_rfl) ?_ _
            go_wp2_with fail
            go_meet
            case rel => exact HREL.out
      case rest =>
        obtain ⟨hk9, A9, c9, hb9, hc9, hr9, hx9⟩ := hcut
        have a0 := cell_of hb9 (i := 0) (u := .int .i64 b.ms) rfl
        have a1 := cell_of hb9 (i := 1) (u := .int .i64 b.ht) rfl
        have a2 := cell_of hb9 (i := 2) (u := .slice A9 (N + 1) c9) rfl
        have hR2 := (HC.out w2 HX2.out).2.2
        have HR9 := Lib.hid ((hk9 z2 (lt_of_block hR2)).trans hR2)
        have HX9 := Lib.hid hx9
        have hzl := lt_of_block hR2
        have hwl := (HX0.out.trans HX2.out).lt
        have HZL := Lib.hid (And.intro hzl hwl)
        have HRO := Lib.hid hr9
        clear hzl hwl hk9 hb9 hr9 hx9 hR2 HAP1 HAP2 HAP3 HTXa HTXb HTX HQ
        by_cases hc : 16384 < np
        · have HE0 := Lib.hid (show addE b e v t = 2 by rw [HE.out, if_pos hc])
          have HF := Lib.hid (show Calls Tryz.prog 85 #[.agg #[.int .i64 b.ms, .int .i64 b.ht, .slice A9 (N + 1) c9]] wc (fun z9 wf => Ext wc wf ∧ z9 = .returned (.tuple #[.agg #[.int .i64 0, .int .i64 0, .slice none 0 0], .int .i64 2])) from by
            refine (HFT.out _ HX9.out A9 c9 (Lay.row_mono HRO.out fun j hj _ => Nat.le_trans HZL.out.2 hj)).mono ?_
            rintro z9 wf ⟨hxf, (⟨hnp, rfl⟩ | ⟨hnp, rfl⟩)⟩
            · omega
            · exact ⟨hxf, rfl⟩)
          clear HFT
          go_wp2_with (first | (go_at_call 85; refine (HF.out).mono ?_; rintro z9 wf ⟨hxf, rfl⟩; have hRf := (hxf.block _ (lt_of_block HR9.out)).trans HR9.out; obtain ⟨k0, k1, k2, j0, j1, j2⟩ := BkR.of hRf; have HRF := Lib.hid hRf; clear hRf))
          have hs := st3 HRF.out (.int .i64 0) (.int .i64 0) (.slice none 0 0)
          have q0 := cell_of hs (i := 0) rfl
          have q1 := cell_of hs (i := 1) rfl
          have q2 := cell_of hs (i := 2) rfl
          refine bodyPost_ret (v := .tuple #[.agg #[.int .i64 0, .int .i64 0, .slice none 0 0], .int .i64 2]) (by simp [results, Tryz.results37, go_sem, q0, q1, q2]) rfl ?_
          refine ⟨ext3 (HX9.out.trans hxf) (by have := HZ.out; omega) _ _ _, ?_⟩
          exact .inl ⟨by rw [HE0.out]; decide, by rw [HE0.out]⟩
        · have HE0 := Lib.hid (show addE b e v t = 0 by rw [HE.out, if_neg hc])
          have HF := Lib.hid (show Calls Tryz.prog 85 #[.agg #[.int .i64 b.ms, .int .i64 b.ht, .slice A9 (N + 1) c9]] wc (fun z9 wf => Ext wc wf ∧ z9 = .returned (.tuple #[.agg #[.int .i64 b.ms, .int .i64 b.ht, .slice A9 (N + 1) c9], .int .i64 0])) from by
            refine (HFT.out _ HX9.out A9 c9 (Lay.row_mono HRO.out fun j hj _ => Nat.le_trans HZL.out.2 hj)).mono ?_
            rintro z9 wf ⟨hxf, (⟨hnp, rfl⟩ | ⟨hnp, rfl⟩)⟩
            · exact ⟨hxf, rfl⟩
            · omega)
          clear HFT
          go_wp2_with (first | (go_at_call 85; refine (HF.out).mono ?_; rintro z9 wf ⟨hxf, rfl⟩; have hRf := (hxf.block _ (lt_of_block HR9.out)).trans HR9.out; obtain ⟨k0, k1, k2, j0, j1, j2⟩ := BkR.of hRf; have HRF := Lib.hid hRf; clear hRf))
          have hs := st3 HRF.out (.int .i64 b.ms) (.int .i64 b.ht) (.slice A9 (N + 1) c9)
          have q0 := cell_of hs (i := 0) rfl
          have q1 := cell_of hs (i := 1) rfl
          have q2 := cell_of hs (i := 2) rfl
          refine bodyPost_ret (v := .tuple #[.agg #[.int .i64 b.ms, .int .i64 b.ht, .slice A9 (N + 1) c9], .int .i64 0]) (by simp [results, Tryz.results37, go_sem, q0, q1, q2]) rfl ?_
          refine ⟨ext3 (HX9.out.trans hxf) (by have := HZ.out; omega) _ _ _, ?_⟩
          refine .inr ⟨HE0.out, A9, N + 1, c9, rfl, hc9, Lay.row_mono (Lay.row_keep HRO.out (by have := hxf.lt; simp; omega) fun j hj hl => ?_) fun j hj _ => Nat.le_trans HZL.out.2 hj⟩
          have hz9 : j ≠ z2 := by have := HZL.out.1; omega
          exact (heap_setCell_other _ ⟨z2, 2, none⟩ j _ hz9).trans ((heap_setCell_other _ ⟨z2, 1, none⟩ j _ hz9).trans ((heap_setCell_other _ ⟨z2, 0, none⟩ j _ hz9).trans (hxf.block j hl)))
end Go.Proofs.YtdbnddmncbjobaaGreatDoor

/- index.Merge: walked (printed by genyo.py). -/
namespace Go.Proofs.YtdbnddmncbjobaaGreatDoor
open Go Go.RowKit Go.Maps
attribute [local go_sem] Oper.semAt_some

/-- Nothing below B but the block b has turned. -/
structure Bsd (B b : Nat) (W X : World) : Prop where
  os : X.os = W.os
  tape : X.tape = W.tape
  output : X.output = W.output
  size : W.heap.size ≤ X.heap.size
  block : ∀ j, j < B → j ≠ b → X.heap[j]? = W.heap[j]?
theorem Bsd.refl (B b : Nat) (W : World) : Bsd B b W W := ⟨rfl, rfl, rfl, Nat.le_refl _, fun _ _ _ => rfl⟩
theorem Bsd.ext {B b : Nat} {W X : World} (h : Bsd B b W X) (hB : B ≤ W.heap.size) {Y : World} (hY : Ext X Y) : Bsd B b W Y :=
  ⟨hY.os.trans h.os, hY.tape.trans h.tape, hY.output.trans h.output, Nat.le_trans h.size hY.size, fun j hj hb => (hY.block j (by have := h.size; omega)).trans (h.block j hj hb)⟩
theorem Bsd.push {B b n : Nat} {hs : List (List UInt8 × Ct)} {W0 W X X2 : World} {k : List UInt8} {ys : List Ct} {v : Value} {D' : DV} (h : Bsd B b W0 W) (hB : B ≤ W0.heap.size) (hX : Ext W X) (hp : Pushed B b n hs W X k ys v D' X2) : Bsd B b W0 X2 :=
  have h2 := h.ext hB hX
  ⟨hp.os.trans h2.os, hp.tape.trans h2.tape, hp.output.trans h2.output, Nat.le_trans h2.size hp.size, fun j hj hb => (hp.block j (by have := h2.size; omega) (.inl hj) hb).trans (h2.block j hj hb)⟩
theorem Ext.grown {W X : World} (h : Ext W X) : W.grownBy X none := ⟨h.os, h.tape, h.output, h.size, fun j hj _ => h.block j hj⟩
def MeR (B b N : Nat) (U : Tb) (w2 : World) (s14 : Value) (W : World) : Prop := ∃ (i : Nat) (D : DV), i ≤ N ∧ s14 = .int .i64 i ∧ GMap B b i (prs (U.take i)) D W ∧ Bsd B b w2 W
set_option maxHeartbeats 4000000 in
set_option maxRecDepth 100000 in
theorem imerge_any (w : World) (A A' : Option Addr) (n n' c c' M M' : Nat) (S T : Tb) (hS : TbV w A n c S M) (hT : TbV w A' n' c' T M') (hM : M + M' ≤ 10000) :
    Calls Tryz.prog 25 #[.slice A n c, .slice A' n' c'] w fun e w' => ∃ A1 n1 c1, e = .returned (.slice A1 n1 c1) ∧ TbV w' A1 n1 c1 (mrgP S T) (M + M') ∧ Ext w w' := by
  have hmm := @run_makeMap Tryz.prog
  obtain ⟨hn, hnM, _⟩ := hS.n
  obtain ⟨hn', hnM', _⟩ := hT.n
  obtain ⟨U, hU⟩ : ∃ U, S ++ T = U := ⟨_, rfl⟩
  have HUL := Lib.hid (show U.length = n + n' by rw [← hU, List.length_append, hn, hn'])
  have HUP := Lib.hid (show (prs U).length ≤ M + M' by rw [← hU, prs_append, List.length_append]; have := hS.len; have := hT.len; omega)
  have HUK := Lib.hid (show ∀ x ∈ U, x.1.length ≤ 1000 ∧ x.2 ≠ [] by
    rw [← hU]; intro x hx
    rcases List.mem_append.1 hx with hx | hx
    · exact ⟨hS.key x hx, hS.reg.some x hx⟩
    · exact ⟨hT.key x hx, hT.reg.some x hx⟩)
  have HMR := Lib.hid (show tabP (prs U) = mrgP S T by unfold mrgP; rw [← hU, prs_append])
  obtain ⟨b, hb⟩ : ∃ b, w.heap.size = b := ⟨_, rfl⟩
  obtain ⟨w0, hw0⟩ : ∃ w0, w.alloc (.map #[] 0) = w0 := ⟨_, rfl⟩
  have hx0 : Ext w w0 := by rw [← hw0]; exact (Ext.refl w).alloc _
  have hg0 : GMap (b + 1) b 0 [] (.map []) w0 := by rw [← hw0, ← hb]; exact GMap.made w
  obtain ⟨g, hg⟩ : ∃ g, w0.heap.size = g := ⟨_, rfl⟩
  have hgb : g = b + 1 := by rw [← hg, ← hw0, ← hb]; simp
  subst hgb
  obtain ⟨w1, hw1⟩ : ∃ w1, w0.alloc (.cells #[.slice A n c, .slice A' n' c'] 33) = w1 := ⟨_, rfl⟩
  have hx1 : Ext w0 w1 := by rw [← hw1]; exact (Ext.refl w0).alloc _
  have hG : w1.heap[b + 1]? = some (.cells #[.slice A n c, .slice A' n' c'] 33 (0, 0)) := by rw [← hw1, ← hg]; exact heap_alloc_new _ _
  have HCAT := Lib.hid (cat70 kIt kIt_sz (fun j => j < b) w1 (b + 1) A A' n n' c c' S T (Lay.row_ext (Lay.row_mono hS.row fun j _ hj => by rw [← hb]; exact hj) (hx0.trans hx1)) (Lay.row_ext (Lay.row_mono hT.row fun j _ hj => by rw [← hb]; exact hj) (hx0.trans hx1)) (by omega) (by omega) (lt_of_block hG) (cell_of hG (i := 0) rfl) (cell_of hG (i := 1) rfl))
  rw [hU] at HCAT
  have HG0 := Lib.hid hg0
  have HX0 := Lib.hid hx0
  have HX1 := Lib.hid hx1
  have HGB := Lib.hid hG
  have hb1 : b + 1 ≤ w1.heap.size := by have := hx1.lt; omega
  have HB1 := Lib.hid hb1
  obtain ⟨N, hN⟩ : ∃ N, n + n' = N := ⟨_, rfl⟩
  have HN := Lib.hid hN
  have HWB := Lib.hid hb
  clear hS hT hn hn' hU hg0 hx0 hx1 hG hb1
  go_enter Tryz.func25, Tryz.ntmps25
  go_wp2_with (first
    | (go_at_call 70; refine (HCAT.out).mono ?_; rintro e w2 ⟨A1, c1, rfl, ho, hx2⟩; have HO := Lib.hid ho; have HX2 := Lib.hid hx2; clear ho hx2))
  rw [HUL.out, HN.out] at HO ⊢
  obtain ⟨B, hB⟩ : ∃ B, w2.heap.size = B := ⟨_, rfl⟩
  have hBb : b + 1 < B := by have := HX2.out.lt; have := lt_of_block HGB.out; omega
  have hgm := ((HG0.out.keep (HX1.out.trans HX2.out).grown).raise (B' := B) (by omega))
  have HRU := Lib.hid (show kIt.row w2 (fun j => j < B ∧ j ≠ b) A1 N U from by
    obtain ⟨A9, c9, e9, _, hr9⟩ := Lay.own_row HO.out
    have hlt := Lay.own_lt HO.out
    obtain ⟨rfl, e2, _⟩ := Value.slice.inj e9
    rw [← e2] at hr9
    refine Lay.row_mono hr9 fun j hj hjl => ⟨by omega, ?_⟩
    rcases hj with hj | hj
    · omega
    · have := (hlt j hj).1; have := HB1.out; omega)
  have HXB := Lib.hid (show Ext w w2 from HX0.out.trans (HX1.out.trans HX2.out))
  have HBB := Lib.hid (And.intro hBb hB)
  have HG2 := Lib.hid hgm
  have hN4 : N ≤ 10000 := by have := HN.out; omega
  clear hgm hBb hB HG0 HO HX0 HX1 HX2 HCAT HGB HB1
  go_loopw [7, 14] (fun _ s14 W => MeR B b N U w2 s14 W) (fun _ s14 _ => toM N s14)
  case atStart => exact ⟨0, .map [], by omega, rfl, HG2.out, Bsd.refl _ _ _⟩
  case round =>
    obtain ⟨i, D, hi, rfl, hgm, hbs⟩ := hrel
    have HGM := Lib.hid hgm
    have HBS := Lib.hid hbs
    clear hgm hbs
    have hw1' : IntKind.i64.wrap ((i : Int) + 1) = (i : Int) + 1 := IntWalk.i64_in _ (by omega)
    by_cases hlt : i < N
    case neg =>
      have hni : ¬ ((i : Int) < (N : Int)) := by omega
      have hti : U.take i = U := List.take_of_length_le (by rw [HUL.out, HN.out]; omega)
      have hgm9 := HGM.out
      rw [hti] at hgm9
      have hBw : B ≤ wr.heap.size := by have := HBB.out.2; have := HBS.out.size; omega
      have HIT := Lib.hid (items_any wr B b i (prs U) D hgm9 hBw (by have := HUP.out; omega) (fun h hh => by
        obtain ⟨l, hl, _⟩ := (mem_prs U h.1 h.2).1 hh
        exact (HUK.out _ hl).1))
      clear hgm9 hti hBw
      go_wp2_with (first | (go_at_call 57; refine (HIT.out).mono ?_; rintro e w5 ⟨A5, m5, c5, rfl, hT5, hb5⟩; have HT5 := Lib.hid hT5; have HB5 := Lib.hid hb5; clear hT5 hb5))
      go_ret
      refine ⟨A5, m5, c5, rfl, by rw [← HMR.out]; exact HT5.out.mono HUP.out, ?_⟩
      have h1 := HB5.out
      have h2 := HBS.out
      have h3 := HXB.out
      exact ⟨h1.os.trans (h2.os.trans h3.os), h1.tape.trans (h2.tape.trans h3.tape), h1.output.trans (h2.output.trans h3.output), Nat.le_trans h3.size (Nat.le_trans h2.size h1.size), fun j hj => by
        have hjb : j < b := by rw [← HWB.out]; exact hj
        have := HBB.out.1
        exact (h1.block j (by omega)).trans ((h2.block j (by omega) (by omega)).trans (h3.block j hj))⟩
    have hI : (i : Int) < (N : Int) := by omega
    obtain ⟨x, hx⟩ : ∃ x, U[i]? = some x := ⟨_, List.getElem?_eq_getElem (by rw [HUL.out, HN.out]; exact hlt)⟩
    have hxm := HUK.out x (List.mem_of_getElem? hx)
    have hru : kIt.row wr (fun j => j < B ∧ j ≠ b) A1 N U := Lay.row_keep HRU.out HBS.out.size fun j hj _ => HBS.out.block j hj.1 hj.2
    obtain ⟨gb, off, A2, n2, c2, rfl, hgbl, a0, a1, hnc2, hr2⟩ := it_at hru hx
    have hY0 : ∀ o, (wr.alloc o).cell? ⟨gb, off + i * 2, none⟩ = some (.string ⟨x.1.toArray⟩) := fun o => (((Ext.refl wr).alloc o).cells.1 gb _ hgbl).trans a0
    have hY1 : ∀ o, (wr.alloc o).cell? ⟨gb, off + i * 2 + 1, none⟩ = some (.slice A2 n2 c2) := fun o => (((Ext.refl wr).alloc o).cells.1 gb _ hgbl).trans a1
    obtain ⟨z, hz⟩ : ∃ z, wr.heap.size = z := ⟨_, rfl⟩
    obtain ⟨w3, hw3⟩ : ∃ w3, wr.alloc (.cells #[.string ⟨x.1.toArray⟩, .slice A2 n2 c2] 99) = w3 := ⟨_, rfl⟩
    have hx3 : Ext wr w3 := by rw [← hw3]; exact (Ext.refl wr).alloc _
    have hB3 : w3.heap[z]? = some (.cells #[.string ⟨x.1.toArray⟩, .slice A2 n2 c2] 99 (0, 0)) := by rw [← hw3, ← hz]; exact heap_alloc_new _ _
    have hzl := lt_of_block hB3
    have hBw : B ≤ wr.heap.size := by have := HBB.out.2; have := HBS.out.size; omega
    have htk := prs_take hx
    have htl := prs_take_le U (i + 1)
    have htl2 := prs_take_le U i
    obtain ⟨v, hlook, hpush⟩ := GMap.push HGM.out hBw (k := x.1) (by unfold maxLen; omega) (by omega) (by have := HUP.out; omega)
    obtain ⟨A5, m5, c5, X1, hrun, hmap1, hs1, hk1, D', X2, hrun2, hp⟩ := hpush w3.drew hx3.drew.grown _ A2 n2 c2 x.2 (Lay.row_ext hr2 hx3.drew) hxm.2 (by rw [htk, List.length_append, List.length_map] at htl; have := HUP.out; omega)
    have hzb : z ≠ b := by have := HBB.out.1; omega
    have HS := Lib.hid (show w3.drew.cell? ⟨z, 0, none⟩ = some (.string ⟨x.1.toArray⟩) ∧ w3.drew.cell? ⟨z, 1, none⟩ = some (.slice A2 n2 c2) ∧ (Instr.lookup 105 (.map (some b)) (.string ⟨x.1.toArray⟩) false).run Tryz.prog w3.drew = .ok v w3.drew from
      ⟨cell_of (W := w3.drew) hB3 (i := 0) rfl, cell_of (W := w3.drew) hB3 (i := 1) rfl, hlook _ (HGM.out.own.kept hx3.drew.grown (by simp))⟩)
    have HS1 := Lib.hid (show X1.cell? ⟨z, 0, none⟩ = some (.string ⟨x.1.toArray⟩) ∧ X1.cell? ⟨z, 1, none⟩ = some (.slice A2 n2 c2) ∧ (Instr.lookup 105 (.map (some b)) (.string ⟨x.1.toArray⟩) false).run Tryz.prog X1 = .ok v X1 from by
      have h9 : X1.heap[z]? = _ := (hk1 z hzl (.inr (by omega)) hzb).trans hB3
      exact ⟨cell_of h9 (i := 0) rfl, cell_of h9 (i := 1) rfl, hlook _ hmap1⟩)
    have RUN := Lib.hid hrun
    have RUN2 := Lib.hid hrun2
    have HREL := Lib.hid (show MeR B b N U w2 (.int .i64 ((i : Int) + 1)) X2 from ⟨i + 1, D', by omega, by simp, by rw [htk]; exact hp.gm, HBS.out.push (by have := HBB.out.2; omega) hx3.drew hp⟩)
    clear hx hxm hru hr2 hx3 hB3 hzl hBw htk htl htl2 hlook hpush hrun hmap1 hs1 hk1 hrun2 hp hzb
    go_upto_region 5 with (fail)
    have hS0 : (fun X : World => X.cell? ⟨z, 0, none⟩ = some (.string ⟨x.1.toArray⟩) ∧ X.cell? ⟨z, 1, none⟩ = some (.slice A2 n2 c2) ∧ (Instr.lookup 105 (.map (some b)) (.string ⟨x.1.toArray⟩) false).run Tryz.prog X = .ok v X) w3.drew := HS.out
    refine wp_region_E (fun X : World => X.cell? ⟨z, 0, none⟩ = some (.string ⟨x.1.toArray⟩) ∧ X.cell? ⟨z, 1, none⟩ = some (.slice A2 n2 c2) ∧ (Instr.lookup 105 (.map (some b)) (.string ⟨x.1.toArray⟩) false).run Tryz.prog X = .ok v X) (fun _ => True) (fun i => i == 10) (by kernel_rfl) ?_
    refine wpE_takeS (i := 0) (d := some 18) (v := .map (some b)) rfl rfl (by kernel_rfl) (by kernel_rfl) (by kernel_rfl) (by kernel_rfl) (fun _ _ _ h => h) (by rfl) ?hy1 hS0 trivial ?go1
    case hy1 =>
      intro w9 hT9
      clear hT9; go_simp
    (try simp only [Act.put, List.setIfInBounds_toArray, List.set_cons_zero, List.set_cons_succ])
    refine wpE_takeS (i := 1) (d := some 19) (v := .pointer (some ⟨z, 0, none⟩)) rfl rfl (by kernel_rfl) (by kernel_rfl) (by kernel_rfl) (by kernel_rfl) (fun _ _ _ h => h) (by rfl) ?hy2 hS0 trivial ?go2
    case hy2 =>
      intro w9 hT9
      clear hT9; go_simp
    (try simp only [Act.put, List.setIfInBounds_toArray, List.set_cons_zero, List.set_cons_succ])
    refine wpE_takeS (i := 2) (d := some 20) (v := .string ⟨x.1.toArray⟩) rfl rfl (by kernel_rfl) (by kernel_rfl) (by kernel_rfl) (by kernel_rfl) (fun _ _ _ h => h) (by rfl) ?hy3 hS0 trivial ?go3
    case hy3 =>
      intro w9 hT9
      obtain ⟨s0, s1, s2⟩ := hT9; go_simp
    (try simp only [Act.put, List.setIfInBounds_toArray, List.set_cons_zero, List.set_cons_succ])
    refine wpE_takeS (i := 3) (d := some 21) (v := .map (some b)) rfl rfl (by kernel_rfl) (by kernel_rfl) (by kernel_rfl) (by kernel_rfl) (fun _ _ _ h => h) (by rfl) ?hy4 hS0 trivial ?go4
    case hy4 =>
      intro w9 hT9
      clear hT9; go_simp
    (try simp only [Act.put, List.setIfInBounds_toArray, List.set_cons_zero, List.set_cons_succ])
    refine wpE_takeS (i := 4) (d := some 22) (v := .pointer (some ⟨z, 0, none⟩)) rfl rfl (by kernel_rfl) (by kernel_rfl) (by kernel_rfl) (by kernel_rfl) (fun _ _ _ h => h) (by rfl) ?hy5 hS0 trivial ?go5
    case hy5 =>
      intro w9 hT9
      clear hT9; go_simp
    (try simp only [Act.put, List.setIfInBounds_toArray, List.set_cons_zero, List.set_cons_succ])
    refine wpE_takeS (i := 5) (d := some 23) (v := .string ⟨x.1.toArray⟩) rfl rfl (by kernel_rfl) (by kernel_rfl) (by kernel_rfl) (by kernel_rfl) (fun _ _ _ h => h) (by rfl) ?hy6 hS0 trivial ?go6
    case hy6 =>
      intro w9 hT9
      obtain ⟨s0, s1, s2⟩ := hT9; go_simp
    (try simp only [Act.put, List.setIfInBounds_toArray, List.set_cons_zero, List.set_cons_succ])
    refine wpE_takeS (i := 6) (d := some 24) (v := v) rfl rfl (by kernel_rfl) (by kernel_rfl) (by kernel_rfl) (by kernel_rfl) (fun _ _ _ h => h) (by rfl) ?hy7 hS0 trivial ?go7
    case hy7 =>
      intro w9 hT9
      obtain ⟨s0, s1, s2⟩ := hT9; go_simp
    (try simp only [Act.put, List.setIfInBounds_toArray, List.set_cons_zero, List.set_cons_succ])
    refine wpE_takeS (i := 7) (d := some 25) (v := .pointer (some ⟨z, 1, none⟩)) rfl rfl (by kernel_rfl) (by kernel_rfl) (by kernel_rfl) (by kernel_rfl) (fun _ _ _ h => h) (by rfl) ?hy8 hS0 trivial ?go8
    case hy8 =>
      intro w9 hT9
      clear hT9; go_simp
    (try simp only [Act.put, List.setIfInBounds_toArray, List.set_cons_zero, List.set_cons_succ])
    refine wpE_takeS (i := 8) (d := some 26) (v := .slice A2 n2 c2) rfl rfl (by kernel_rfl) (by kernel_rfl) (by kernel_rfl) (by kernel_rfl) (fun _ _ _ h => h) (by rfl) ?hy9 hS0 trivial ?go9
    case hy9 =>
      intro w9 hT9
      obtain ⟨s0, s1, s2⟩ := hT9; go_simp
    (try simp only [Act.put, List.setIfInBounds_toArray, List.set_cons_zero, List.set_cons_succ])
    refine wpE_all (rs := [9]) (by kernel_rfl) (by simp) ?_
    refine AllE.cons rfl (fun K hK => ?_) AllE.nil
    simp only [List.getElem_toArray, List.getElem_cons_succ, List.getElem_cons_zero]
    refine step_append_tm (s := .tmp 24) (x := .tmp 26) RUN.out rfl rfl rfl rfl rfl ?_
    refine hK.out _ _ ⟨fun _ => HS1.out, trivial⟩ (fun _ => ?_)
    clear hK K
    have hS0 := HS1.out
    (try simp only [Act.put, List.setIfInBounds_toArray, List.set_cons_zero, List.set_cons_succ])
    refine wpE_all (rs := [10]) (by kernel_rfl) (by simp) ?_
    refine AllE.cons rfl (fun K hK => ?_) AllE.nil
    simp only [List.getElem_toArray, List.getElem_cons_succ, List.getElem_cons_zero]
    refine step_mapU (m := .tmp 18) (k := .tmp 20) (x := .tmp 27) RUN2.out rfl rfl rfl rfl rfl ?_
    refine hK.out _ _ ⟨fun h => absurd h (by simp), trivial⟩ (fun _ => ?_)
    clear hK K
    (try simp only [Act.put])
    refine wpE_done (by kernel_rfl) ?_ _
    go_wp2_with fail
    go_roundw
    case rel => exact HREL.out
    case measure => simp only [toM]; omega
end Go.Proofs.YtdbnddmncbjobaaGreatDoor

/- What stands in the index of a book: hits, in plain Lean. -/
namespace Go.Proofs.YtdbnddmncbjobaaGreatDoor

/-- A seal. -/
structure Sea where
  ent : Int
  ver : Int
  fr : Int
  un : Int
  gr : Int
deriving DecidableEq, Inhabited
def covS (s : Sea) (e v n : Int) : Bool := decide (s.ent = e ∧ s.ver = v ∧ s.fr ≤ n ∧ n < s.un)
/-- Whether a word is sealed. -/
def seald (l : List Sea) (e v n : Int) : Bool := l.any fun s => covS s e v n
/-- The word of a text with a number. -/
def wordT (t : Tx) (n : Int) : Option Wd := if n < 0 then none else (t.paras ++ t.notes).flatten[n.toNat]?
/-- The text of a version of an entry. -/
def textB (b : Bk) (e v : Int) : Option Tx := (b.secs.find? fun x => x.ent == e).bind fun x => ((x.vers.zip x.texts).find? fun q => q.1 == v).map (·.2)
theorem textB_mem {b : Bk} {e v : Int} {t : Tx} (h : textB b e v = some t) : ∃ x ∈ b.secs, x.ent = e ∧ ∃ k : Nat, x.vers[k]? = some v ∧ x.texts[k]? = some t := by
  unfold textB at h
  obtain ⟨x, h1, h2⟩ := Option.bind_eq_some_iff.1 h
  obtain ⟨q, h3, h4⟩ := Option.map_eq_some_iff.1 h2
  refine ⟨x, List.mem_of_find?_eq_some h1, by simpa using List.find?_some h1, ?_⟩
  obtain ⟨k, hk⟩ := List.getElem?_of_mem (List.mem_of_find?_eq_some h3)
  have h5 := List.find?_some h3
  rw [List.getElem?_zip_eq_some] at hk
  have e1 : q.1 = v := by simpa using h5
  exact ⟨k, by rw [hk.1, e1], by rw [hk.2, h4]⟩
/-- What a word of a line of a page gives. -/
def hitW (br tb : Int) (ls : List Sea) (t : Tx) (p : Pg) (k : Nat) (n : Int) : List (List UInt8 × Ct) :=
  match wordT t n with
  | none => []
  | some w => if w.key ≠ [] ∧ w.tb = tb ∧ seald ls p.ent p.ver n = false then [(w.key, ⟨br, p.num, p.suf, (k : Int) + 1⟩)] else []
/-- m words from n on. -/
def hitN (br tb : Int) (ls : List Sea) (t : Tx) (p : Pg) (k : Nat) (n : Int) (m : Nat) : List (List UInt8 × Ct) := (List.range m).flatMap fun i => hitW br tb ls t p k (n + (i : Nat))
def hitX (br tb : Int) (ls : List Sea) (t : Tx) (p : Pg) (k : Nat) (x : Ln) : List (List UInt8 × Ct) := hitN br tb ls t p k x.fr (x.un - x.fr).toNat
/-- The first m lines of a page. -/
def hitL (br tb : Int) (ls : List Sea) (t : Tx) (p : Pg) (xs : List Ln) (m : Nat) : List (List UInt8 × Ct) := (List.range m).flatMap fun k => match xs[k]? with | none => [] | some x => hitX br tb ls t p k x
def hitP (br tb : Int) (ls : List Sea) (b : Bk) (p : Pg) : List (List UInt8 × Ct) :=
  match textB b p.ent p.ver with
  | none => []
  | some t => hitL br tb ls t p (p.body ++ p.nts) (p.body ++ p.nts).length
/-- What stands in the index of a book. -/
def hits (br tb : Int) (ls : List Sea) (b : Bk) : List (List UInt8 × Ct) := (pagesB b).flatMap (hitP br tb ls b)
theorem hitN_succ (br tb : Int) (ls : List Sea) (t : Tx) (p : Pg) (k : Nat) (n : Int) (m : Nat) : hitN br tb ls t p k n (m + 1) = hitN br tb ls t p k n m ++ hitW br tb ls t p k (n + (m : Nat)) := by
  unfold hitN; rw [List.range_succ, List.flatMap_append]; simp
theorem hitL_succ (br tb : Int) (ls : List Sea) (t : Tx) (p : Pg) {xs : List Ln} {m : Nat} {x : Ln} (h : xs[m]? = some x) : hitL br tb ls t p xs (m + 1) = hitL br tb ls t p xs m ++ hitX br tb ls t p m x := by
  unfold hitL; rw [List.range_succ, List.flatMap_append]; simp [h]
theorem hits_take (br tb : Int) (ls : List Sea) (b : Bk) {ps : List Pg} {i : Nat} {p : Pg} (h : ps[i]? = some p) : (ps.take (i + 1)).flatMap (hitP br tb ls b) = (ps.take i).flatMap (hitP br tb ls b) ++ hitP br tb ls b p := by
  rw [List.take_add_one, h, List.flatMap_append]; simp
/-- A key stands at a place. -/
def Hit (br tb : Int) (ls : List Sea) (b : Bk) (key : List UInt8) (c : Ct) : Prop :=
  ∃ p ∈ pagesB b, ∃ t, textB b p.ent p.ver = some t ∧ ∃ (k : Nat) (x : Ln), (p.body ++ p.nts)[k]? = some x ∧ ∃ n : Int, x.fr ≤ n ∧ n < x.un ∧ ∃ w, wordT t n = some w ∧ w.key = key ∧ key ≠ [] ∧ w.tb = tb ∧ seald ls p.ent p.ver n = false ∧ c = ⟨br, p.num, p.suf, (k : Int) + 1⟩
theorem mem_hitW {br tb : Int} {ls : List Sea} {t : Tx} {p : Pg} {k : Nat} {n : Int} {key : List UInt8} {c : Ct} : (key, c) ∈ hitW br tb ls t p k n ↔ ∃ w, wordT t n = some w ∧ w.key = key ∧ key ≠ [] ∧ w.tb = tb ∧ seald ls p.ent p.ver n = false ∧ c = ⟨br, p.num, p.suf, (k : Int) + 1⟩ := by
  unfold hitW
  cases hw : wordT t n with
  | none => simp
  | some w =>
    simp only [Option.some.injEq]
    split
    · next h =>
      obtain ⟨h1, h2, h3⟩ := h
      simp only [List.mem_singleton, Prod.mk.injEq]
      constructor
      · rintro ⟨rfl, rfl⟩; exact ⟨w, rfl, rfl, h1, h2, h3, rfl⟩
      · rintro ⟨_, rfl, rfl, _, _, _, rfl⟩; exact ⟨rfl, rfl⟩
    · next h =>
      simp only [List.not_mem_nil, false_iff]
      rintro ⟨_, rfl, rfl, h1, h2, h3, _⟩
      exact h ⟨h1, h2, h3⟩
theorem mem_hits {br tb : Int} {ls : List Sea} {b : Bk} {key : List UInt8} {c : Ct} : (key, c) ∈ hits br tb ls b ↔ Hit br tb ls b key c := by
  unfold hits Hit
  rw [List.mem_flatMap]
  refine exists_congr fun p => and_congr_right fun hp => ?_
  unfold hitP
  cases ht : textB b p.ent p.ver with
  | none => simp
  | some t =>
    simp only [Option.some.injEq, exists_eq_left']
    unfold hitL
    rw [List.mem_flatMap]
    constructor
    · rintro ⟨k, hk, h⟩
      obtain ⟨x, hx⟩ : ∃ x, (p.body ++ p.nts)[k]? = some x := ⟨_, List.getElem?_eq_getElem (List.mem_range.1 hk)⟩
      rw [hx] at h
      simp only [hitX, hitN] at h
      obtain ⟨i, hi, h⟩ := List.mem_flatMap.1 h
      have hi' := List.mem_range.1 hi
      exact ⟨k, x, hx, x.fr + (i : Nat), by omega, by omega, mem_hitW.1 h⟩
    · rintro ⟨k, x, hx, n, h1, h2, h⟩
      refine ⟨k, List.mem_range.2 (List.getElem?_eq_some_iff.1 hx).1, ?_⟩
      rw [hx]
      simp only [hitX, hitN]
      refine List.mem_flatMap.2 ⟨(n - x.fr).toNat, List.mem_range.2 (by omega), ?_⟩
      rw [show x.fr + (((n - x.fr).toNat : Nat) : Int) = n by omega]
      exact mem_hitW.2 h
/-- The table of a book. -/
def itemsB (br tb : Int) (ls : List Sea) (b : Bk) : Tb := tabP (hits br tb ls b)
theorem wordT_lt {t : Tx} {n : Int} {w : Wd} (h : wordT t n = some w) : 0 ≤ n ∧ n < ((t.paras ++ t.notes).flatten.length : Nat) ∧ ∃ p ∈ t.paras ++ t.notes, w ∈ p := by
  unfold wordT at h
  split at h
  · cases h
  · next h0 =>
    have h1 := (List.getElem?_eq_some_iff.1 h).1
    have h2 := List.mem_of_getElem? h
    obtain ⟨p, hp, hw⟩ := List.mem_flatten.1 h2
    exact ⟨by omega, by omega, p, hp, hw⟩
end Go.Proofs.YtdbnddmncbjobaaGreatDoor

/- seal.selected and seal.Groups: walked. -/
namespace Go.Proofs.YtdbnddmncbjobaaGreatDoor
open Go Go.RowKit
attribute [local go_sem] Oper.semAt_some

def seaCs (s : Sea) : List Value := [.int .i64 s.ent, .int .i64 s.ver, .int .i64 s.fr, .int .i64 s.un, .int .i64 s.gr]
def kSea : Lay Sea where
  sz := 5
  rep _ _ s cs := cs = seaCs s
  len h := by subst h; rfl
  one h := by subst h; intro u hu; simp only [seaCs, List.mem_cons, List.not_mem_nil, or_false] at hu; rcases hu with rfl | rfl | rfl | rfl | rfl <;> rfl
  keep h _ _ := h
  mono h _ := h
theorem info48 : (Tryz.prog.info? 48).map (fun i => (i.zero, i.size, i.bytes)) = some (some (Value.agg #[.int .i64 0, .int .i64 0, .int .i64 0, .int .i64 0, .int .i64 0]), 5, 40) := by kernel_rfl
theorem sea_at {W : World} {P : Nat → Prop} {A : Option Addr} {n : Nat} {xs : List Sea} (h : kSea.row W P A n xs) {i : Nat} {x : Sea} (hi : xs[i]? = some x) :
    ∃ b off, A = some ⟨b, off, none⟩ ∧ b < W.heap.size ∧ W.cell? ⟨b, off + i * 5, none⟩ = some (.int .i64 x.ent) ∧ W.cell? ⟨b, off + i * 5 + 1, none⟩ = some (.int .i64 x.ver) ∧ W.cell? ⟨b, off + i * 5 + 2, none⟩ = some (.int .i64 x.fr) ∧ W.cell? ⟨b, off + i * 5 + 3, none⟩ = some (.int .i64 x.un) ∧ W.cell? ⟨b, off + i * 5 + 4, none⟩ = some (.int .i64 x.gr) := by
  obtain ⟨b, off, cs, rfl, hb, _, hrep, hc⟩ := Lay.row_at h hi
  have e : cs = seaCs x := hrep
  subst e
  exact ⟨b, off, rfl, hb, hc 0 _ rfl, hc 1 _ rfl, hc 2 _ rfl, hc 3 _ rfl, hc 4 _ rfl⟩
set_option maxHeartbeats 4000000 in
set_option maxRecDepth 100000 in
theorem clo75 (X : World) (z1 z2 z3 : Nat) (e v k : Int) (s : Sea) (h1 : X.cell? ⟨z1, 0, none⟩ = some (.int .i64 e)) (h2 : X.cell? ⟨z2, 0, none⟩ = some (.int .i64 v)) (h3 : X.cell? ⟨z3, 0, none⟩ = some (.int .i64 k)) :
    Calls Tryz.prog 75 #[.agg #[.int .i64 s.ent, .int .i64 s.ver, .int .i64 s.fr, .int .i64 s.un, .int .i64 s.gr], .pointer (some ⟨z1, 0, none⟩), .pointer (some ⟨z2, 0, none⟩), .pointer (some ⟨z3, 0, none⟩)] X (fun z X' => z = .returned (.bool (covS s e v k)) ∧ Ext X X') := by
  obtain ⟨s0, s1, s2, s3, s4⟩ := s
  have hx : Ext X (X.alloc (.cells #[.int .i64 s0, .int .i64 s1, .int .i64 s2, .int .i64 s3, .int .i64 s4] 48)) := (Ext.refl X).alloc _
  have HX := Lib.hid hx
  obtain ⟨r, hr⟩ : ∃ r, covS ⟨s0, s1, s2, s3, s4⟩ e v k = r := ⟨_, rfl⟩
  rw [hr]
  unfold covS at hr
  simp only at hr
  have c1 := fun o => (((Ext.refl X).alloc o).cells.1 z1 0 (World.block_lt_of_cell? _ _ h1)).trans h1
  have c2 := fun o => (((Ext.refl X).alloc o).cells.1 z2 0 (World.block_lt_of_cell? _ _ h2)).trans h2
  have c3 := fun o => (((Ext.refl X).alloc o).cells.1 z3 0 (World.block_lt_of_cell? _ _ h3)).trans h3
  clear hx
  by_cases g1 : s0 = e
  · have b1 : (s0 == e) = true := by simpa using g1
    by_cases g2 : s1 = v
    · have b2 : (s1 == v) = true := by simpa using g2
      by_cases g3 : s2 ≤ k
      · have b3 : decide (s2 ≤ k) = true := by simpa using g3
        have HR := Lib.hid (show r = decide (k < s3) by rw [← hr]; simp [g1, g2, g3])
        clear hr g1 g2 g3
        go_enter Tryz.func75, Tryz.ntmps75
        go_wp2_with fail
        go_ret
        exact ⟨by rw [HR.out]; rfl, HX.out⟩
      · have b3 : decide (s2 ≤ k) = false := by simpa using g3
        have HR := Lib.hid (show r = false by rw [← hr]; simp [g1, g2, g3])
        clear hr g1 g2 g3
        go_enter Tryz.func75, Tryz.ntmps75
        go_wp2_with fail
        go_ret
        exact ⟨by rw [HR.out]; rfl, HX.out⟩
    · have b2 : (s1 == v) = false := by simpa using g2
      have HR := Lib.hid (show r = false by rw [← hr]; simp [g1, g2])
      clear hr g1 g2
      go_enter Tryz.func75, Tryz.ntmps75
      go_wp2_with fail
      go_ret
      exact ⟨by rw [HR.out]; rfl, HX.out⟩
  · have b1 : (s0 == e) = false := by simpa using g1
    have HR := Lib.hid (show r = false by rw [← hr]; simp [g1])
    clear hr g1
    go_enter Tryz.func75, Tryz.ntmps75
    go_wp2_with fail
    go_ret
    exact ⟨by rw [HR.out]; rfl, HX.out⟩
def SeR (w : World) (p : Sea → Bool) (l : List Sea) (s5 s10 : Value) (W : World) : Prop := ∃ (i : Nat) (A : Option Addr) (c : Nat), i ≤ l.length ∧ s10 = .int .i64 i ∧ s5 = .slice A ((l.take i).filter p).length c ∧ kSea.own 48 W w.heap.size (fun _ => False) s5 ((l.take i).filter p) ∧ Ext w W
theorem sea_app {w X : World} {A : Option Addr} {m c : Nat} {xs : List Sea} (h : kSea.own 48 X w.heap.size (fun _ => False) (.slice A m c) xs) (hm : m = xs.length) (hx : Ext w X) (x : Sea) (hl : m ≤ 1000000) :
    ∃ A' c' w', (Builtin.append_ #[28, 28] 28 #[.slice A m c, .slice (some ⟨X.heap.size, 0, none⟩) 1 1]).run Tryz.prog (X.alloc (.cells #[.int .i64 x.ent, .int .i64 x.ver, .int .i64 x.fr, .int .i64 x.un, .int .i64 x.gr] 48)) = .ok (.slice A' (m + 1) c') w' ∧ kSea.own 48 w' w.heap.size (fun _ => False) (.slice A' (m + 1) c') (xs ++ [x]) ∧ Ext w w' := by
  subst hm
  obtain ⟨A', c', w', r1, r2, r3, _⟩ := own_app1 (k := kSea) (Pr := Tryz.prog) (t := 28) (e := 48) Tryz.underlying28 info48 rfl (by decide) (by omega) h hx.lt (cs := #[.int .i64 x.ent, .int .i64 x.ver, .int .i64 x.fr, .int .i64 x.un, .int .i64 x.gr]) (T := 48) (x := x) rfl 1 (by omega)
  exact ⟨A', c', w', r1, r2, Below.trans hx (r3 _ (Nat.le_refl _))⟩
set_option maxHeartbeats 4000000 in
set_option maxRecDepth 100000 in
theorem selected_any (P : Nat → Prop) (w : World) (A : Option Addr) (n c : Nat) (l : List Sea) (p : Sea → Bool) (p1 p2 p3 : Value) (h : kSea.row w P A n l) (hn : n ≤ 1000000)
    (hc : ∀ X (s : Sea), Ext w X → Calls Tryz.prog 75 #[.agg #[.int .i64 s.ent, .int .i64 s.ver, .int .i64 s.fr, .int .i64 s.un, .int .i64 s.gr], p1, p2, p3] X (fun z X' => z = .returned (.bool (p s)) ∧ Ext X X')) :
    Calls Tryz.prog 74 #[.slice A n c, .func (.func 75) #[] #[p1, p2, p3]] w fun e w' => ∃ A' c', e = .returned (.slice A' (l.filter p).length c') ∧ kSea.row w' (fun j => w.heap.size ≤ j) A' (l.filter p).length (l.filter p) ∧ Ext w w' := by
  have HL := Lib.hid (Lay.row_len h)
  have HR := Lib.hid h
  have HC := Lib.hid hc
  clear h hc
  go_enter Tryz.func74, Tryz.ntmps74
  go_wp2_with fail
  go_loopw [5, 10] (fun s5 s10 W => SeR w p l s5 s10 W) (fun _ s10 _ => toM n s10)
  case atStart => exact ⟨0, none, 0, by omega, rfl, rfl, Lay.own_nil _ _ _ _ _, Ext.refl _⟩
  case round =>
    obtain ⟨i, A1, c1, hi, rfl, rfl, ho, hx⟩ := hrel
    rw [← HL.out] at hi
    have HO := Lib.hid ho
    have HX := Lib.hid hx
    clear ho hx
    have hw1 : IntKind.i64.wrap ((i : Int) + 1) = (i : Int) + 1 := IntWalk.i64_in _ (by omega)
    have hml : ((l.take i).filter p).length ≤ i := Nat.le_trans (List.length_filter_le _ _) (by rw [List.length_take]; exact Nat.min_le_left _ _)
    obtain ⟨m, hm⟩ : ∃ m, ((l.take i).filter p).length = m := ⟨_, rfl⟩
    rw [hm] at HO hml ⊢
    have HM := Lib.hid hm.symm
    clear hm
    by_cases hlt : i < n
    case neg =>
      have hni : ¬ ((i : Int) < (n : Int)) := by omega
      have HF := Lib.hid (show l.take i = l from List.take_of_length_le (by have := HL.out; omega))
      go_wp2_with fail
      go_ret
      have ho9 := HO.out
      have hm9 := HM.out
      rw [HF.out] at ho9 hm9
      subst hm9
      obtain ⟨_, hr9⟩ := own_rowQ ho9
      exact ⟨A1, ⟨c1, rfl⟩, Lay.row_mono hr9 fun j hj _ => hj.elim False.elim id, HX.out⟩
    have hI : (i : Int) < (n : Int) := by omega
    obtain ⟨s, hs⟩ : ∃ s, l[i]? = some s := ⟨_, List.getElem?_eq_getElem (by have := HL.out; omega)⟩
    obtain ⟨b, off, rfl, hb, a0, a1, a2, a3, a4⟩ := sea_at (Lay.row_ext HR.out HX.out) hs
    have y0 := fun o => (((Ext.refl wr).alloc o).cells.1 b _ hb).trans a0
    have y1 := fun o => (((Ext.refl wr).alloc o).cells.1 b _ hb).trans a1
    have y2 := fun o => (((Ext.refl wr).alloc o).cells.1 b _ hb).trans a2
    have y3 := fun o => (((Ext.refl wr).alloc o).cells.1 b _ hb).trans a3
    have y4 := fun o => (((Ext.refl wr).alloc o).cells.1 b _ hb).trans a4
    obtain ⟨z, hz⟩ : ∃ z, wr.heap.size = z := ⟨_, rfl⟩
    obtain ⟨w2, hw2⟩ : ∃ w2, wr.alloc (.cells #[.int .i64 s.ent, .int .i64 s.ver, .int .i64 s.fr, .int .i64 s.un, .int .i64 s.gr] 48) = w2 := ⟨_, rfl⟩
    have hx2 : Ext wr w2 := by rw [← hw2]; exact (Ext.refl wr).alloc _
    have hB : w2.heap[z]? = some (.cells #[.int .i64 s.ent, .int .i64 s.ver, .int .i64 s.fr, .int .i64 s.un, .int .i64 s.gr] 48 (0, 0)) := by rw [← hw2, ← hz]; exact heap_alloc_new _ _
    have HB := Lib.hid hB
    have HX2 := Lib.hid (HX.out.trans hx2)
    have HXW := Lib.hid hx2
    have e0 := cell_of hB (i := 0) rfl
    have e1 := cell_of hB (i := 1) rfl
    have e2 := cell_of hB (i := 2) rfl
    have e3 := cell_of hB (i := 3) rfl
    have e4 := cell_of hB (i := 4) rfl
    have HCC := Lib.hid (HC.out w2 s HX2.out)
    have hts : l.take (i + 1) = l.take i ++ [s] := by rw [List.take_add_one, hs]; rfl
    cases hp : p s with
    | false =>
      have HST := Lib.hid (show (l.take (i + 1)).filter p = (l.take i).filter p by rw [hts, List.filter_append]; simp [hp])
      rw [hp] at HCC
      clear hts hp hs hx2 hB
      go_wp2_with (first | (go_at_call 75; refine (HCC.out).mono ?_; rintro e w3 ⟨rfl, hx3⟩; have HX3 := Lib.hid hx3; clear hx3))
      go_roundw
      case rel => exact ⟨i + 1, A1, c1, by have := HL.out; omega, by go_num, by rw [HST.out, ← HM.out], by rw [HST.out]; exact Lay.own_ext HO.out (HXW.out.trans HX3.out), HX2.out.trans HX3.out⟩
      case measure => simp only [toM]; omega
    | true =>
      have HST := Lib.hid (show (l.take (i + 1)).filter p = (l.take i).filter p ++ [s] by rw [hts, List.filter_append]; simp [hp])
      rw [hp] at HCC
      clear hts hp hs hx2 hB e0 e1 e2 e3 e4
      have e0 := cell_of HB.out (i := 0) rfl
      have e1 := cell_of HB.out (i := 1) rfl
      have e2 := cell_of HB.out (i := 2) rfl
      have e3 := cell_of HB.out (i := 3) rfl
      have e4 := cell_of HB.out (i := 4) rfl
      go_upto_region 6 with (first | (go_at_call 75; refine (HCC.out).mono ?_; rintro e w3 ⟨rfl, hx3⟩; have HX3 := Lib.hid hx3; clear hx3))
      clear e0 e1 e2 e3 e4
      have hB3 := (HX3.out.block _ (lt_of_block HB.out)).trans HB.out
      have e0 := cell_of hB3 (i := 0) rfl
      have e1 := cell_of hB3 (i := 1) rfl
      have e2 := cell_of hB3 (i := 2) rfl
      have e3 := cell_of hB3 (i := 3) rfl
      have e4 := cell_of hB3 (i := 4) rfl
      obtain ⟨A', c', w4, hrun, ho4, hx4⟩ := sea_app (Lay.own_ext HO.out (HXW.out.trans HX3.out)) HM.out (HX2.out.trans HX3.out) s (by omega)
      have RUN := Lib.hid hrun
      have HO4 := Lib.hid ho4
      have HX4 := Lib.hid hx4
      clear hrun ho4 hx4 hB3
      go_wp2_with (first | (at_builtin; refine wpList_append_run (s := .tmp 17) (x := .tmp 19) RUN.out rfl rfl rfl rfl rfl ?_))
      go_roundw
      case rel => exact ⟨i + 1, A', c', by have := HL.out; omega, by go_num, by rw [HST.out, List.length_append, ← HM.out]; rfl, by rw [HST.out]; exact HO4.out, HX4.out⟩
      case measure => simp only [toM]; omega
theorem or_pos {g : Int} {r : Nat} (h0 : 0 ≤ g) (h1 : g ≤ 65535) (hr : r ≤ 15) : ∃ g' : Int, 0 < g' ∧ g' ≤ 65535 ∧ bits BinOp.or IntKind.i64 g (2 ^ r) = g' := by
  obtain ⟨a, rfl⟩ : ∃ a : Nat, g = a := ⟨g.toNat, by omega⟩
  have ha : a < 2 ^ 16 := by omega
  have hb : 2 ^ r < 2 ^ 16 := Nat.pow_lt_pow_right (by omega) (by omega)
  have e1 : (BitVec.ofInt 64 (a : Int)).toNat = a := by
    rw [BitVec.ofInt_natCast, BitVec.toNat_ofNat]; exact Nat.mod_eq_of_lt (by omega)
  have e2 : (BitVec.ofInt 64 (2 ^ r : Int)).toNat = 2 ^ r := by
    rw [show (2 ^ r : Int) = ((2 ^ r : Nat) : Int) by simp, BitVec.ofInt_natCast, BitVec.toNat_ofNat]; exact Nat.mod_eq_of_lt (by omega)
  have e3 : (BitVec.ofInt 64 (a : Int) ||| BitVec.ofInt 64 (2 ^ r)).toNat = a ||| 2 ^ r := by rw [BitVec.toNat_or, e1, e2]
  have h3 : a ||| 2 ^ r < 2 ^ 16 := Nat.or_lt_two_pow ha hb
  have h4 : 2 ^ r ≤ a ||| 2 ^ r := Nat.right_le_or
  have h5 : 0 < 2 ^ r := Nat.pow_pos (by omega)
  refine ⟨((a ||| 2 ^ r : Nat) : Int), by omega, by omega, ?_⟩
  show IntKind.i64.wrap (((BitVec.ofInt 64 (a : Int) ||| BitVec.ofInt 64 (2 ^ r)).toNat : Nat) : Int) = _
  rw [e3]
  exact IntWalk.i64_in _ (by omega)
def GrR (w : World) (l : List Sea) (s9 s16 : Value) (W : World) : Prop := ∃ (i : Nat) (g : Int), i ≤ l.length ∧ s16 = .int .i64 i ∧ s9 = .int .i64 g ∧ 0 ≤ g ∧ g ≤ 65535 ∧ (g = 0 ↔ i = 0) ∧ Ext w W
set_option maxHeartbeats 4000000 in
set_option maxRecDepth 100000 in
theorem groups_any (P : Nat → Prop) (w : World) (A : Option Addr) (n c : Nat) (l : List Sea) (e v k : Int) (h : kSea.row w P A n l) (hn : n ≤ 1000000) (hg : ∀ s ∈ l, 0 ≤ s.gr ∧ s.gr ≤ 15) :
    Calls Tryz.prog 34 #[.slice A n c, .int .i64 e, .int .i64 v, .int .i64 k] w fun z w' => ∃ g : Int, z = .returned (.int .i64 g) ∧ (g = 0 ↔ seald l e v k = false) ∧ Ext w w' := by
  obtain ⟨b, hb⟩ : ∃ b, w.heap.size = b := ⟨_, rfl⟩
  obtain ⟨w1, hw1⟩ : ∃ w1, ((w.alloc (.cells #[.int .i64 e] 3)).alloc (.cells #[.int .i64 v] 3)).alloc (.cells #[.int .i64 k] 3) = w1 := ⟨_, rfl⟩
  have hx1 : Ext w w1 := by rw [← hw1]; exact (((Ext.refl w).alloc _).alloc _).alloc _
  have hB0 : w1.heap[b]? = some (.cells #[.int .i64 e] 3 (0, 0)) := by
    rw [← hw1, ← hb, heap_alloc_old _ _ _ (by simp; omega), heap_alloc_old _ _ _ (by simp)]; exact heap_alloc_new _ _
  have hB1 : w1.heap[b + 1]? = some (.cells #[.int .i64 v] 3 (0, 0)) := by
    rw [← hw1, ← hb, heap_alloc_old _ _ _ (by simp)]; exact heap_alloc_at _ _ _ _ (by simp)
  have hB2 : w1.heap[b + 1 + 1]? = some (.cells #[.int .i64 k] 3 (0, 0)) := by
    rw [← hw1, ← hb]; exact heap_alloc_at _ _ _ _ (by simp)
  have HSE := Lib.hid (selected_any P w1 A n c l (fun s => covS s e v k) (.pointer (some ⟨b, 0, none⟩)) (.pointer (some ⟨b + 1, 0, none⟩)) (.pointer (some ⟨b + 1 + 1, 0, none⟩)) (Lay.row_ext h hx1) hn fun X s hX => clo75 X b (b + 1) (b + 1 + 1) e v k s (cell_of ((hX.block _ (lt_of_block hB0)).trans hB0) rfl) (cell_of ((hX.block _ (lt_of_block hB1)).trans hB1) rfl) (cell_of ((hX.block _ (lt_of_block hB2)).trans hB2) rfl))
  have HX1 := Lib.hid hx1
  obtain ⟨F, hF⟩ : ∃ F, (l.filter fun s => covS s e v k) = F := ⟨_, rfl⟩
  have HFG := Lib.hid (show ∀ s ∈ F, 0 ≤ s.gr ∧ s.gr ≤ 15 by rw [← hF]; exact fun s hs => hg s (List.mem_filter.1 hs).1)
  have HFS := Lib.hid (show seald l e v k = false ↔ F.length = 0 by
    rw [← hF, List.length_eq_zero_iff, List.filter_eq_nil_iff]
    unfold seald
    rw [List.any_eq_false])
  obtain ⟨m, hm⟩ : ∃ m, F.length = m := ⟨_, rfl⟩
  have hmn : m ≤ 1000000 := by rw [← hm, ← hF]; exact Nat.le_trans (List.length_filter_le _ _) (by rw [← Lay.row_len h]; exact hn)
  rw [hF, hm] at HSE
  rw [hm] at HFS
  have HM := Lib.hid hm
  clear h hg hx1 hB0 hB1 hB2 hF hm
  go_enter Tryz.func34, Tryz.ntmps34
  go_wp2_with (first | (go_at_call 74; refine (HSE.out).mono ?_; rintro z w2 ⟨A2, c2, rfl, hr2, hx2⟩; have HR2 := Lib.hid hr2; have HX2 := Lib.hid hx2; clear hr2 hx2))
  clear hw1 hb
  go_loopw [9, 16] (fun s9 s16 W => GrR w2 F s9 s16 W) (fun _ s16 _ => toM m s16)
  case atStart => exact ⟨0, 0, by omega, rfl, rfl, by omega, by omega, by simp, Ext.refl _⟩
  case round =>
    obtain ⟨i, g, hi, rfl, rfl, hg0, hg1, hgi, hx⟩ := hrel
    rw [HM.out] at hi
    have HX := Lib.hid hx
    have HGI := Lib.hid hgi
    clear hx hgi
    have hw1 : IntKind.i64.wrap ((i : Int) + 1) = (i : Int) + 1 := IntWalk.i64_in _ (by omega)
    by_cases hlt : i < m
    case neg =>
      have hni : ¬ ((i : Int) < (m : Int)) := by omega
      go_wp2_with fail
      go_ret
      exact ⟨g, rfl, by rw [HFS.out, HGI.out]; omega, HX1.out.trans (HX2.out.trans HX.out)⟩
    have hI : (i : Int) < (m : Int) := by omega
    obtain ⟨s, hs⟩ : ∃ s, F[i]? = some s := ⟨_, List.getElem?_eq_getElem (by have := HM.out; omega)⟩
    obtain ⟨hs0, hs1⟩ := HFG.out s (List.mem_of_getElem? hs)
    obtain ⟨r, hr⟩ : ∃ r : Nat, s.gr = r := ⟨s.gr.toNat, by omega⟩
    obtain ⟨g', hgp, hgl, hor⟩ := or_pos hg0 hg1 (r := r) (by omega)
    obtain ⟨b2, off, rfl, hb2, a0, a1, a2, a3, a4⟩ := sea_at (Lay.row_ext HR2.out HX.out) hs
    rw [hr] at a4
    have y0 := fun o => (((Ext.refl wr).alloc o).cells.1 b2 _ hb2).trans a0
    have y1 := fun o => (((Ext.refl wr).alloc o).cells.1 b2 _ hb2).trans a1
    have y2 := fun o => (((Ext.refl wr).alloc o).cells.1 b2 _ hb2).trans a2
    have y3 := fun o => (((Ext.refl wr).alloc o).cells.1 b2 _ hb2).trans a3
    have y4 := fun o => (((Ext.refl wr).alloc o).cells.1 b2 _ hb2).trans a4
    have hpw : IntKind.i64.wrap (2 ^ r) = 2 ^ r := by
      have h9 : (2 : Nat) ^ r < 2 ^ 16 := Nat.pow_lt_pow_right (by omega) (by omega)
      obtain ⟨q, hq⟩ : ∃ q : Nat, 2 ^ r = q := ⟨_, rfl⟩
      have e : ((2 : Int) ^ r) = (q : Int) := by rw [← hq]; simp
      rw [hq] at h9
      rw [e]
      exact IntWalk.i64_in _ (by omega)
    have hmin : min r 64 = r := by omega
    have hrn : ¬ ((r : Int) < 0) := by omega
    clear hs hs0 hs1 hr
    have HGP := Lib.hid (And.intro hgp hgl)
    clear hgp hgl
    go_wp2_with fail
    go_roundw
    case rel => exact ⟨i + 1, g', by have := HM.out; omega, by go_num, rfl, by have := HGP.out; omega, HGP.out.2, by have := HGP.out; omega, HX.out.alloc _⟩
    case measure => simp only [toM]; omega
end Go.Proofs.YtdbnddmncbjobaaGreatDoor

/- glyph.Word: walked. -/
namespace Go.Proofs.YtdbnddmncbjobaaGreatDoor
open Go Go.RowKit
attribute [local go_sem] Oper.semAt_some

theorem flatW_len (L : List (List Wd)) : L.flatten.length = wordsN L := by unfold wordsN; rw [List.length_flatten]
theorem flat_at {L : List (List Wd)} {i : Nat} {p : List Wd} (h : L[i]? = some p) {k : Nat} (h1 : wordsN (L.take i) ≤ k) (h2 : k - wordsN (L.take i) < p.length) : L.flatten[k]? = p[k - wordsN (L.take i)]? := by
  obtain ⟨hi, rfl⟩ := List.getElem?_eq_some_iff.1 h
  conv => lhs; rw [← List.take_append_drop i L, List.drop_eq_getElem_cons hi]
  rw [List.flatten_append, List.getElem?_append_right (by rw [flatW_len]; exact h1), flatW_len, List.flatten_cons, List.getElem?_append_left h2]
theorem flat_no {L : List (List Wd)} {k : Nat} (h : wordsN L ≤ k) : L.flatten[k]? = none := List.getElem?_eq_none (by rw [flatW_len]; exact h)
def wdV (x : Wd) : Value := .agg #[.string ⟨x.s.toArray⟩, .string ⟨x.key.toArray⟩, .int .i64 x.tb, .int .i64 x.nt]
def noWd : Wd := ⟨[], [], 0, 0⟩
/-- A word, or none. -/
def wdR (o : Option Wd) : Value := .tuple #[wdV (o.getD noWd), .bool o.isSome]
structure GwB (z : Nat) (x : Wd) (W : World) : Prop where
  b : W.heap[z]? = some (.cells #[.string ⟨x.s.toArray⟩, .string ⟨x.key.toArray⟩, .int .i64 x.tb, .int .i64 x.nt] 60 (0, 0))
theorem GwB.set {z : Nat} {y : Wd} {W w : World} (h : GwB z y W) (hw : w.heap.size ≤ z) (hx : Ext w W) (x : Wd) :
    GwB z x ((((W.setCell ⟨z, 0, none⟩ (.string ⟨x.s.toArray⟩)).setCell ⟨z, 1, none⟩ (.string ⟨x.key.toArray⟩)).setCell ⟨z, 2, none⟩ (.int .i64 x.tb)).setCell ⟨z, 3, none⟩ (.int .i64 x.nt)) ∧
    Ext w ((((W.setCell ⟨z, 0, none⟩ (.string ⟨x.s.toArray⟩)).setCell ⟨z, 1, none⟩ (.string ⟨x.key.toArray⟩)).setCell ⟨z, 2, none⟩ (.int .i64 x.tb)).setCell ⟨z, 3, none⟩ (.int .i64 x.nt)) :=
  ⟨⟨heap_setCell_same _ z 3 _ 60 _ (heap_setCell_same _ z 2 _ 60 _ (heap_setCell_same _ z 1 _ 60 _ (heap_setCell_same _ z 0 _ 60 _ h.b)))⟩, (((hx.setCell (p := ⟨z, 0, none⟩) hw _).setCell (p := ⟨z, 1, none⟩) hw _).setCell (p := ⟨z, 2, none⟩) hw _).setCell (p := ⟨z, 3, none⟩) hw _⟩
def GwR (w1 : World) (L : List (List Wd)) (k : Int) (s1 s18 : Value) (w' : World) : Prop := ∃ i : Nat, i ≤ L.length ∧ s18 = .int .i64 i ∧ s1 = .int .i64 (k - (wordsN (L.take i) : Nat)) ∧ (wordsN (L.take i) : Int) ≤ k ∧ w1 = w'
set_option maxHeartbeats 4000000 in
set_option maxRecDepth 100000 in
theorem gword_any (P : Nat → Prop) (w : World) (A A' : Option Addr) (n n' c c' : Nat) (t : Tx) (k : Int) (h1 : kWs.row w P A n t.paras) (h2 : kWs.row w P A' n' t.notes) (hp : t.paras.length ≤ 10000) (hn : t.notes.length ≤ 10000) (hb : wordsN (t.paras ++ t.notes) ≤ 1000000) (hk : k ≤ 9223372036854775807) :
    Calls Tryz.prog 32 #[.agg #[.slice A n c, .slice A' n' c'], .int .i64 k] w (fun e w' => e = .returned (wdR (wordT t k)) ∧ Ext w w') := by
  have HC := Lib.hid (fun X (hx : Ext w X) g hg g0 g1 => cat72 kWs rfl P X g A A' n n' c c' _ _ (Lay.row_ext h1 hx) (Lay.row_ext h2 hx) (by have := Lay.row_len h1; omega) (by have := Lay.row_len h2; omega) hg g0 g1)
  have HW := Lib.hid (show wordT t k = if k < 0 then none else (t.paras ++ t.notes).flatten[k.toNat]? from rfl)
  obtain ⟨L, hLe⟩ : ∃ L, t.paras ++ t.notes = L := ⟨_, rfl⟩
  obtain ⟨m, hm⟩ : ∃ m, L.length = m := ⟨_, rfl⟩
  have hm2 : m ≤ 20000 := by rw [← hm, ← hLe, List.length_append]; omega
  rw [hLe] at HC HW
  rw [hLe] at hb
  have HM := Lib.hid hm
  have HB := Lib.hid hb
  have HC2 := Lib.hid (fun X (hx : Ext w X) g hg g0 g1 => (show Calls Tryz.prog 72 #[.slice (some ⟨g, 0, none⟩) 2 2] X (fun e X' => ∃ A3 c3, e = .returned (.slice A3 m c3) ∧ kWs.row X' (fun j => P j ∨ X.heap.size ≤ j) A3 m L ∧ Ext X X') from by
    refine (HC.out X hx g hg g0 g1).mono ?_
    rintro e X' ⟨A3, c3, rfl, ho, hxx⟩
    obtain ⟨Ar, cr, er, _, hrow⟩ := Lay.own_row ho
    obtain ⟨e1, _, _⟩ := Value.slice.inj er
    subst hm
    rw [← e1] at hrow
    exact ⟨A3, c3, rfl, Lay.row_mono hrow fun j hj _ => hj.imp id fun hj => (Lay.own_lt ho j hj).1, hxx⟩))
  obtain ⟨o, ho⟩ : ∃ o, wordT t k = o := ⟨_, rfl⟩
  rw [ho] at HW ⊢
  clear h1 h2 hp hn hLe hm hb HC ho
  obtain ⟨z, hz⟩ : ∃ z, w.heap.size = z := ⟨_, rfl⟩
  obtain ⟨w0, hw0⟩ : ∃ w0, (w.alloc (.cells #[.slice A n c, .slice A' n' c'] 53)).alloc (.cells #[.string ⟨#[]⟩, .string ⟨#[]⟩, .int .i64 0, .int .i64 0] 60) = w0 := ⟨_, rfl⟩
  have hx0 : Ext w w0 := by rw [← hw0]; exact ((Ext.refl w).alloc _).alloc _
  have hB0 : w0.heap[z]? = some (.cells #[.slice A n c, .slice A' n' c'] 53 (0, 0)) := by
    rw [← hw0, ← hz, heap_alloc_old _ _ _ (by simp)]; exact heap_alloc_new _ _
  have hB1 : GwB (z + 1) noWd w0 := ⟨by rw [← hw0, ← hz]; exact heap_alloc_at _ _ _ _ (by simp)⟩
  have HX0 := Lib.hid hx0
  have HB1 := Lib.hid hB1
  have HZ := Lib.hid hz
  have a0 := cell_of hB0 (i := 0) (u := .slice A n c) rfl
  have a1 := cell_of hB0 (i := 1) (u := .slice A' n' c') rfl
  go_enter Tryz.func32, Tryz.ntmps32
  go_upto_region 1 with (fail)
  clear hw0 hz
  by_cases hk0 : k < 0
  · have hon : o = none := by rw [HW.out, if_pos hk0]
    subst hon
    have f0 := frozen_of hB1.b 0
    have f1 := frozen_of hB1.b 1
    have f2 := frozen_of hB1.b 2
    have f3 := frozen_of hB1.b 3
    have e0 := cell_of hB1.b (i := 0) rfl
    have e1 := cell_of hB1.b (i := 1) rfl
    have e2 := cell_of hB1.b (i := 2) rfl
    have e3 := cell_of hB1.b (i := 3) rfl
    clear hB0 hB1 hx0
    go_wp2_with fail
    obtain ⟨Y, hY⟩ : ∃ Y, ((((w0.setCell ⟨z + 1, 0, none⟩ (.string ⟨#[]⟩)).setCell ⟨z + 1, 1, none⟩ (.string ⟨#[]⟩)).setCell ⟨z + 1, 2, none⟩ (.int .i64 0)).setCell ⟨z + 1, 3, none⟩ (.int .i64 0)) = Y := ⟨_, rfl⟩
    have hg : GwB (z + 1) noWd ((((w0.setCell ⟨z + 1, 0, none⟩ (.string ⟨#[]⟩)).setCell ⟨z + 1, 1, none⟩ (.string ⟨#[]⟩)).setCell ⟨z + 1, 2, none⟩ (.int .i64 0)).setCell ⟨z + 1, 3, none⟩ (.int .i64 0)) ∧ Ext w ((((w0.setCell ⟨z + 1, 0, none⟩ (.string ⟨#[]⟩)).setCell ⟨z + 1, 1, none⟩ (.string ⟨#[]⟩)).setCell ⟨z + 1, 2, none⟩ (.int .i64 0)).setCell ⟨z + 1, 3, none⟩ (.int .i64 0)) := HB1.out.set (w := w) (by have := HZ.out; omega) HX0.out noWd
    rw [hY] at hg ⊢
    obtain ⟨g1, g2⟩ := hg
    have q0 := cell_of g1.b (i := 0) (u := .string ⟨#[]⟩) rfl
    have q1 := cell_of g1.b (i := 1) (u := .string ⟨#[]⟩) rfl
    have q2 := cell_of g1.b (i := 2) (u := .int .i64 0) rfl
    have q3 := cell_of g1.b (i := 3) (u := .int .i64 0) rfl
    refine bodyPost_ret (v := wdR none) (by simp [results, Tryz.results32, go_sem, q0, q1, q2, q3]; rfl) rfl ?_
    exact ⟨rfl, g2⟩
  have HK0 := Lib.hid hk0
  clear hk0 hB0 hB1 hx0
  go_wp2_with (first | (go_at_call 72; refine (HC2.out _ (HX0.out.alloc _) _ (by simp) (by go_simp) (by go_simp)).mono ?_; rintro e w1 ⟨A3, c3, rfl, hrow, hx⟩; have HRW := Lib.hid hrow; have HX1 := Lib.hid (((Ext.refl w0).alloc _).trans hx); clear hrow hx))
  have HBX := Lib.hid (show GwB (z + 1) noWd w1 from ⟨(HX1.out.block _ (lt_of_block HB1.out.b)).trans HB1.out.b⟩)
  have HX := Lib.hid (HX0.out.trans HX1.out)
  clear a0 a1
  go_loopw [1, 7, 18] (fun s1 _ s18 w' => GwR w1 L k s1 s18 w') (fun _ _ s18 _ => toM m s18)
  case atStart => exact ⟨0, by omega, rfl, by simp [wordsN], by have := HK0.out; simp [wordsN]; omega, rfl⟩
  case round =>
    obtain ⟨i, hi, rfl, rfl, hqk, rfl⟩ := hrel
    rw [HM.out] at hi
    have hq1 := wordsN_le L i
    have hq2 := HB.out
    have hk0' := HK0.out
    obtain ⟨q, hq⟩ : ∃ q, wordsN (L.take i) = q := ⟨_, rfl⟩
    rw [hq] at hq1 hqk ⊢
    have HQ := Lib.hid hq
    obtain ⟨kn, hkn⟩ : ∃ kn : Nat, k - (q : Int) = kn := ⟨(k - q).toNat, by omega⟩
    rw [hkn]
    have HKN := Lib.hid hkn
    have f0 := frozen_of HBX.out.b 0
    have f1 := frozen_of HBX.out.b 1
    have f2 := frozen_of HBX.out.b 2
    have f3 := frozen_of HBX.out.b 3
    have e0 := cell_of HBX.out.b (i := 0) rfl
    have e1 := cell_of HBX.out.b (i := 1) rfl
    have e2 := cell_of HBX.out.b (i := 2) rfl
    have e3 := cell_of HBX.out.b (i := 3) rfl
    by_cases hlt : i < m
    case neg =>
      obtain rfl : i = m := by omega
      have hni : ¬ ((i : Int) < (i : Int)) := by omega
      have hon : o = none := by
        rw [HW.out, if_neg (show ¬ k < 0 by have := HK0.out; omega)]
        refine flat_no ?_
        rw [← HM.out, List.take_length] at hq
        omega
      subst hon
      clear hq hkn hqk
      go_wp2_with fail
      obtain ⟨Y, hY⟩ : ∃ Y, ((((w1.setCell ⟨z + 1, 0, none⟩ (.string ⟨#[]⟩)).setCell ⟨z + 1, 1, none⟩ (.string ⟨#[]⟩)).setCell ⟨z + 1, 2, none⟩ (.int .i64 0)).setCell ⟨z + 1, 3, none⟩ (.int .i64 0)) = Y := ⟨_, rfl⟩
      have hg : GwB (z + 1) noWd ((((w1.setCell ⟨z + 1, 0, none⟩ (.string ⟨#[]⟩)).setCell ⟨z + 1, 1, none⟩ (.string ⟨#[]⟩)).setCell ⟨z + 1, 2, none⟩ (.int .i64 0)).setCell ⟨z + 1, 3, none⟩ (.int .i64 0)) ∧ Ext w ((((w1.setCell ⟨z + 1, 0, none⟩ (.string ⟨#[]⟩)).setCell ⟨z + 1, 1, none⟩ (.string ⟨#[]⟩)).setCell ⟨z + 1, 2, none⟩ (.int .i64 0)).setCell ⟨z + 1, 3, none⟩ (.int .i64 0)) := HBX.out.set (w := w) (by have := HZ.out; omega) HX.out noWd
      rw [hY] at hg ⊢
      obtain ⟨g1, g2⟩ := hg
      have q0 := cell_of g1.b (i := 0) (u := .string ⟨#[]⟩) rfl
      have q1 := cell_of g1.b (i := 1) (u := .string ⟨#[]⟩) rfl
      have q2 := cell_of g1.b (i := 2) (u := .int .i64 0) rfl
      have q3 := cell_of g1.b (i := 3) (u := .int .i64 0) rfl
      refine bodyPost_ret (v := wdR none) (by simp [results, Tryz.results32, go_sem, q0, q1, q2, q3]; rfl) rfl ?_
      exact ⟨rfl, g2⟩
    have hI : (i : Int) < (m : Int) := by omega
    obtain ⟨p, hpi⟩ : ∃ p, L[i]? = some p := ⟨_, List.getElem?_eq_getElem (by have := HM.out; omega)⟩
    obtain ⟨bl, ol, cl, rfl, hbl, _, hrl, hcl⟩ := Lay.row_at HRW.out hpi
    obtain ⟨Ap, cp, rfl, hpc, hrp⟩ := kWs_rep.1 hrl
    have d0 := hcl 0 _ rfl
    rw [show kWs.sz = 1 from rfl, Nat.mul_one, Nat.add_zero] at d0
    have hst := wordsN_take L i hpi
    have hq3 := wordsN_le L (i + 1)
    rw [hst, hq] at hq3
    by_cases hkp : kn < p.length
    · have hkI : (kn : Int) < (p.length : Int) := by omega
      obtain ⟨x, hx⟩ : ∃ x, p[kn]? = some x := ⟨_, List.getElem?_eq_getElem hkp⟩
      obtain ⟨b2, o2, cs, rfl, hb2, _, hrep, hc2⟩ := Lay.row_at hrp hx
      have hon : o = some x := by
        rw [HW.out, if_neg (show ¬ k < 0 by have := HK0.out; omega), flat_at hpi (k := k.toNat) (by rw [hq]; omega) (by rw [hq]; omega), hq, ← hx]
        congr 1
        omega
      subst hon
      rw [kWd_rep.1 hrep] at hc2
      have x0 := hc2 0 _ rfl
      have x1 := hc2 1 _ rfl
      have x2 := hc2 2 _ rfl
      have x3 := hc2 3 _ rfl
      rw [kWd_sz] at x0 x1 x2 x3
      rw [Nat.add_zero] at x0
      generalize hpl : p.length = pl at hkI d0
      clear hq hkn hqk hcl hrl hpi hrp hrep hc2 hst hq3 hkp hpc hx hpl
      go_wp2_with fail
      obtain ⟨Y, hY⟩ : ∃ Y, ((((w1.setCell ⟨z + 1, 0, none⟩ (.string ⟨x.s.toArray⟩)).setCell ⟨z + 1, 1, none⟩ (.string ⟨x.key.toArray⟩)).setCell ⟨z + 1, 2, none⟩ (.int .i64 x.tb)).setCell ⟨z + 1, 3, none⟩ (.int .i64 x.nt)) = Y := ⟨_, rfl⟩
      have hg := HBX.out.set (w := w) (by have := HZ.out; omega) HX.out x
      rw [hY] at hg ⊢
      obtain ⟨g1, g2⟩ := hg
      have q0 := cell_of g1.b (i := 0) rfl
      have q1 := cell_of g1.b (i := 1) rfl
      have q2 := cell_of g1.b (i := 2) rfl
      have q3 := cell_of g1.b (i := 3) rfl
      refine bodyPost_ret (v := wdR (some x)) (by simp [results, Tryz.results32, go_sem, q0, q1, q2, q3]; rfl) rfl ?_
      exact ⟨rfl, g2⟩
    · have hkI : ¬ ((kn : Int) < (p.length : Int)) := by omega
      have hwk : IntKind.i64.wrap ((kn : Int) - (p.length : Int)) = (kn : Int) - (p.length : Int) := IntWalk.i64_in _ (by omega)
      have HREL := Lib.hid (show GwR w1 L k (.int .i64 ((kn : Int) - (p.length : Int))) (.int .i64 ((i : Int) + 1)) w1 from ⟨i + 1, by have := HM.out; omega, by simp, by rw [hst, hq, ← hkn]; congr 1; simp only [Int.natCast_add]; omega, by rw [hst, hq]; omega, rfl⟩)
      clear hq hkn hqk hcl hrl hpi hrp hst hq3 hkp hpc
      go_wp2_with fail
      go_roundw
      case rel => exact HREL.out
      case measure => simp only [toM]; omega
end Go.Proofs.YtdbnddmncbjobaaGreatDoor

/- book.Strike at an entry whose section is frozen: walked. -/
namespace Go.Proofs.YtdbnddmncbjobaaGreatDoor
open Go Go.RowKit

theorem idxI_some {β : Type} (p : β → Bool) : ∀ xs : List β, 0 ≤ idxI p xs → ∃ (i : Nat) (x : β), idxI p xs = (i : Int) ∧ xs[i]? = some x ∧ p x = true := by
  intro xs
  induction xs with
  | nil => intro h; simp [idxI] at h
  | cons a r ih =>
    intro h
    rw [idxI] at h ⊢
    by_cases ha : p a = true
    · rw [if_pos ha]; exact ⟨0, a, rfl, rfl, ha⟩
    · rw [if_neg ha] at h ⊢
      cases hq : idxI p r with
      | ofNat k =>
        obtain ⟨i, x, h1, h2, h3⟩ := ih (by rw [hq]; exact Int.natCast_nonneg k)
        rw [hq] at h1
        have hk : k = i := by have h1' : (k : Int) = (i : Int) := h1; omega
        subst hk
        exact ⟨k + 1, x, by simp, by simpa using h2, h3⟩
      | negSucc k => rw [hq] at h; simp at h
end Go.Proofs.YtdbnddmncbjobaaGreatDoor
