/- A range over a function whose loop variable is laid in a block by the assignment. -/
import Derived.Test.YtdbnddmncbjobaaGreatDoorMe
import Derived.Shelf.Abstract
import Derived.WalkKit
import Derived.Shelf.RegionOpen
import Derived.OwnWalkIn
import Derived.LoopNIn
import Derived.LoopIn
import Derived.Deep.RegionHeld3
import Derived.Deep.RegionLaw
import Derived.Maps.OwnOps
import Derived.Maps.Views
import Derived.Shelf.SlSortCmp.WholeK
import Derived.Shelf.Small.Strs
import Derived.Test.YtdbnddmncbjobaaGreatDoorProg
import Derived.Sort.OwnSorted
import Derived.Lib.SliceRun
import Derived.BigQuiet
import Derived.Test.YtdbnddmncbjobaaGreatDoorMb
namespace Go.Proofs.YtdbnddmncbjobaaGreatDoor
open Go Go.RowKit

theorem rangeH {α : Type} {F : Fence} {n : Nat} {P : Program} {g : Operand} {ps : Array Tmp} {assign body : Code} {Q : Exit → Act → World → Prop} {a : Act} {w : World}
    (hro : F.round = none) (h1 : 1 ≤ n) {gf : Nat} {lb : Array Value} (hg : a.eval g = .func (.func gf) #[] lb) (hFg : F.fn gf) (eg : ∀ args w, (callFunc gf args).run P w = .ok (.enter gf args) w)
    {encs : α → Array Value} {Rp : (Nat → Prop) → α → World → Prop} {S Sp : List α → Prop} {Q0 : Nat → Prop} (hseq : RSeq F (n - 1) P gf lb encs Rp S Sp Q0 w) (hps : ∀ x, (encs x).size = ps.size)
    (hRp : ∀ q x W l o', Rp q x W → (∀ j, q j → j ≠ l) → Rp q x (W.putObj l o'))
    (I : List α → (Nat → Prop) → World → Prop) (Ix : Code → List α → (Nat → Prop) → World → Prop) (hI : AbMv (w.heap.size + 2) I) (hIx : ∀ c, AbMv (w.heap.size + 2) (Ix c))
    (hIp : ∀ s q W o', I s q W → I s q (W.putObj (w.heap.size + 1) o')) (hIxp : ∀ c s q W o', Ix c s q W → Ix c s q (W.putObj (w.heap.size + 1) o'))
    (_hQ0 : ∀ j, Q0 j → j < w.heap.size) (hIQ : ∀ s q W, I s q W → ∀ j, q j → j ≠ w.heap.size ∧ j ≠ w.heap.size + 1)
    (h0 : ∀ W, Ext w W → W.heap.size = w.heap.size + 2 → I [] Q0 W) (Ax : α → (Nat → Prop) → Act → World → Prop) (hAp : ∀ x q a' W o', Ax x q a' W → Ax x q a' (W.putObj (w.heap.size + 1) o')) (hRx : ∀ q x W W', Rp q x W → Ext W W' → Rp q x W')
    (hassign : ∀ (l : Nat) (x : α) (q : Nat → Prop) (W : World) (K : Act → World → Prop), Rp q x W → w.heap.size + 2 < W.heap.size → (∀ j, q j → j < W.heap.size) → (∀ a' W', Ext W W' → Ax x q a' W' → K a' W') →
      assign.wpIn (F.inRound l) (n - 1 - 1) P (Exit.then K (fun _ _ _ => False)) { tmps := (ps.zip (encs x)).foldl (fun t (p, v) => t.setIfInBounds p v) a.tmps, defers := [] } W)
    (hbody : ∀ (pre : List α) (x : α) (q : Nat → Prop) (a' : Act) (W : World), I pre q W → Rp (fun j => (q j ∧ j ≠ w.heap.size + 2) ∧ w.heap.size ≤ j) x W → Ax x (fun j => (q j ∧ j ≠ w.heap.size + 2) ∧ w.heap.size ≤ j) a' W → (∀ j, q j → j < W.heap.size) → w.heap.size + 2 < W.heap.size → Sp (pre ++ [x]) → body.wpIn (F.inRound (w.heap.size + 1)) (n - 1 - 1) P (rgPost (w.heap.size + 1) w.heap.size q I Ix (pre ++ [x]) W) a' W)
    (hdone : ∀ (xs : List α) (q : Nat → Prop) (W : World), S xs → I xs q W → W.heap[w.heap.size]? = some (.deferred (some [])) → Q .normal { a with defers := { target := .collected w.heap.size, args := #[] } :: a.defers } W)
    (hstop : ∀ (c : Code) (pre : List α) (q : Nat → Prop) (W : World), Sp pre → Ix c pre q W → W.heap[w.heap.size]? = some (.deferred (some [])) → c.wpIn F n P Q { a with defers := { target := .collected w.heap.size, args := #[] } :: a.defers } W) :
    (Code.rangeFunc g ps assign body).wpIn F n P Q a w := by
  refine wpIn_rangeFunc ?_
  intro fn hfn
  rw [hro]
  obtain ⟨rec, hrec⟩ : ∃ rec : LoopState → Option Code → Loop, rec = fun st pe => { state := st, pending := pe, fn, tmps := a.tmps, params := ps, assign, body, defers := w.heap.size } := ⟨_, rfl⟩
  obtain ⟨W1, hW1⟩ : ∃ W1, (w.alloc (.deferred (some []))).alloc (.loop (rec .ready none)) = W1 := ⟨_, rfl⟩
  have hx1 : Ext w W1 := by rw [← hW1]; exact ((Ext.refl w).alloc _).alloc _
  have hs1 : W1.heap.size = w.heap.size + 2 := by rw [← hW1]; simp
  have hL1 : W1.heap[w.heap.size + 1]? = some (.loop (rec .ready none)) := by
    rw [← hW1]; have := World.alloc_heap_new (w.alloc (.deferred (some []))) (.loop (rec .ready none)); rwa [World.size_alloc] at this
  have hK1 : W1.heap[w.heap.size]? = some (.deferred (some [])) := by
    rw [← hW1]; exact (Below.heap_alloc _ _ _ (by simp)).trans (World.alloc_heap_new w _)
  refine ⟨w.heap.size + 1, [{ target := .collected w.heap.size, args := #[] }], W1, { target := .fn (.func gf) lb, args := #[.func (.yield (w.heap.size + 1)) #[] #[]] }, W1, gf,
    #[.func (.yield (w.heap.size + 1)) #[] #[]] ++ lb, W1, ?_, ?_, ?_, ?_, fun _ => h1, ?_⟩
  · rw [← hW1, hrec]; exact run_enterLoop_outer _ _ _ _ _
  · simp only [resolve, hg]
    simp [go_sem]
  · intro f' hf'; simp [Target.leads] at hf'; subst hf'; exact hFg
  · simp [invoke, go_sem, eg]
  · have hne : ∀ {A B : World} {k : Nat} {o : Obj}, k < w.heap.size + 2 → Mv W1.heap.size A B → A.heap[k]? = some o → B.heap[k]? = some o := fun hk hm ho => hm.blk (by omega) ho
    refine (hseq (w.heap.size + 1)
      (fun pre q W => I pre q W ∧ W.heap[w.heap.size + 1]? = some (.loop (rec .ready none)) ∧ W.heap[w.heap.size]? = some (.deferred (some [])))
      (fun pre q W => ∃ c, Ix c pre q W ∧ W.heap[w.heap.size + 1]? = some (.loop (rec .done (some c))) ∧ W.heap[w.heap.size]? = some (.deferred (some [])))
      W1 hx1.lt (fun j hj => hx1.block j hj) hx1
      (fun s q q' A B hs hm hq => ⟨hI s q q' A B hs.1 (by rw [← hs1]; exact hm) (by rw [← hs1]; exact hq), hne (by omega) hm hs.2.1, hne (by omega) hm hs.2.2⟩)
      (fun s q q' A B hs hm hq => by
        obtain ⟨c, hc, hl, hk⟩ := hs
        exact ⟨c, hIx c s q q' A B hc (by rw [← hs1]; exact hm) (by rw [← hs1]; exact hq), hne (by omega) hm hl, hne (by omega) hm hk⟩)
      ?_ ⟨h0 W1 hx1 hs1, hL1, hK1⟩).mono ?_
    · rintro pre x q W ⟨hi, hl, hk⟩ hrp hqs hlen hsp
      have hlt : w.heap.size + 1 < W.heap.size := (Array.getElem?_eq_some_iff.1 hl).1
      have hq1 := hIQ _ _ _ hi
      have hy := run_yield (P := P) (args := encs x) hl (by rw [hrec]; exact hps x)
      rw [hrec] at hy
      refine ⟨fn, _, assign, body, hy, roundIn_of_wpIn hfn (hassign _ x (fun j => (q j ∧ j ≠ w.heap.size + 2) ∧ w.heap.size ≤ j) W _ (by rw [← hs1]; exact hrp) (by rw [← hs1]; exact hlen) (fun j hj => hqs j hj.1.1) fun a' W' hx hax => ?_)⟩
      have hl' : W'.heap[w.heap.size + 1]? = some (.loop (rec .ready none)) := (hx.block _ hlt).trans hl
      have hk' : W'.heap[w.heap.size]? = some (.deferred (some [])) := (hx.block _ (by omega)).trans hk
      have hlt' : w.heap.size + 1 < W'.heap.size := Nat.lt_of_lt_of_le hlt hx.lt
      refine ⟨_, run_beginRound hl' (by rw [hrec]), ?_⟩
      obtain ⟨W2, hW2⟩ : ∃ W2, W2 = W'.putObj (w.heap.size + 1) (.loop { rec .ready none with state := .busy }) := ⟨_, rfl⟩
      rw [← hW2]
      have hl2 : W2.heap[w.heap.size + 1]? = some (.loop { rec .ready none with state := .busy }) := by rw [hW2]; exact World.putObj_heap_same hlt'
      have hk2 : W2.heap[w.heap.size]? = some (.deferred (some [])) := by rw [hW2]; exact (World.putObj_heap_other (by omega)).trans hk'
      have hq2 : ∀ j, q j → W2.heap[j]? = W.heap[j]? := fun j hj => by rw [hW2]; exact (World.putObj_heap_other (hq1 j hj).2).trans (hx.block j (hqs j hj))
      have hsz2 : W2.heap.size = W'.heap.size := by rw [hW2]; simp
      have hi' : I pre q W' := hI _ _ _ _ _ hi (Mv.of_ext hx) fun j hj => .inl hj
      refine wpIn_mono (hbody pre x q a' W2 (by rw [hW2]; exact hIp _ _ _ _ hi') (by rw [hW2]; exact hRp _ _ _ _ _ (hRx _ _ _ _ (by rw [← hs1]; exact hrp) hx) fun j hj => (hq1 j hj.1.1).2) (by rw [hW2]; exact hAp _ _ _ _ _ hax) (fun j hj => by rw [hsz2]; exact Nat.lt_of_lt_of_le (hqs j hj) hx.lt) (by rw [hsz2, ← hs1]; exact Nat.lt_of_lt_of_le hlen hx.lt) hsp) ?_
      have fin : ∀ (jump : Option Code) (W3 : World), W3.heap[w.heap.size + 1]? = W2.heap[w.heap.size + 1]? → W3.heap[w.heap.size]? = W2.heap[w.heap.size]? →
          (Instr.endRound (w.heap.size + 1) jump).run P W3 = .ok (.bool jump.isNone) (W3.putObj (w.heap.size + 1) (.loop (rec (if jump.isNone then .ready else .done) jump))) ∧
          (W3.putObj (w.heap.size + 1) (.loop (rec (if jump.isNone then .ready else .done) jump))).heap[w.heap.size + 1]? = some (.loop (rec (if jump.isNone then .ready else .done) jump)) ∧
          (W3.putObj (w.heap.size + 1) (.loop (rec (if jump.isNone then .ready else .done) jump))).heap[w.heap.size]? = some (.deferred (some [])) := fun jump W3 e1 e2 => by
        have hl3 := e1.trans hl2
        have := run_endRound (P := P) jump hl3
        rw [hrec] at this ⊢
        exact ⟨this, World.putObj_heap_same (Array.getElem?_eq_some_iff.1 hl3).1, (World.putObj_heap_other (by omega)).trans (e2.trans hk2)⟩
      rintro e a3 W3 hp
      cases e with
      | normal =>
        obtain ⟨⟨hk3, hd3⟩, hq3, hi3⟩ := hp
        obtain ⟨hr, hl4, hk4⟩ := fin none W3 hk3 hd3
        exact ⟨_, _, hr, .inl ⟨rfl, ⟨hIp _ _ _ _ hi3, hl4, hk4⟩, fun j hj => (World.putObj_heap_other (hq1 j hj).2).trans ((hq3 j hj).trans (hq2 j hj))⟩⟩
      | ret =>
        obtain ⟨⟨hk3, hd3⟩, hi3⟩ := hp
        obtain ⟨hr, hl4, hk4⟩ := fin (some .ret) W3 hk3 hd3
        exact ⟨_, _, hr, .inr ⟨rfl, .ret, hIxp _ _ _ _ _ hi3, hl4, hk4⟩⟩
      | exit id =>
        obtain ⟨⟨hk3, hd3⟩, hi3⟩ := hp
        obtain ⟨hr, hl4, hk4⟩ := fin (some (.exit id)) W3 hk3 hd3
        exact ⟨_, _, hr, .inr ⟨rfl, .exit id, hIxp _ _ _ _ _ hi3, hl4, hk4⟩⟩
      | goto t =>
        obtain ⟨⟨hk3, hd3⟩, hi3⟩ := hp
        obtain ⟨hr, hl4, hk4⟩ := fin (some (.goto t)) W3 hk3 hd3
        exact ⟨_, _, hr, .inr ⟨rfl, .goto t, hIxp _ _ _ _ _ hi3, hl4, hk4⟩⟩
      | panic ch => exact hp.elim
      | outgrown => exact hp.elim
    · rintro e W2 ⟨⟨v, rfl⟩, (⟨xs, q, hS, hi, hl, hk⟩ | ⟨pre, q, hSp, c, hi, hl, hk⟩)⟩
      · exact ⟨none, _, by have := run_endLoop (P := P) hl (by rw [hrec]; simp); rw [hrec] at this; exact this, hdone xs q _ hS (hIp _ _ _ _ hi) ((World.putObj_heap_other (by omega)).trans hk)⟩
      · exact ⟨some c, _, by have := run_endLoop (P := P) hl (by rw [hrec]; simp); rw [hrec] at this; exact this, hstop c pre q _ hSp (hIxp _ _ _ _ _ hi) ((World.putObj_heap_other (by omega)).trans hk)⟩
end Go.Proofs.YtdbnddmncbjobaaGreatDoor

/- book.Page: walked. -/
namespace Go.Proofs.YtdbnddmncbjobaaGreatDoor
open Go Go.RowKit Go.Shelf
attribute [local go_sem] Oper.semAt_some

theorem Ext.putObj {a W : World} (h : Ext a W) {k : Nat} (hk : a.heap.size ≤ k) (o : Obj) : Ext a (W.putObj k o) :=
  ⟨h.os, h.tape, h.output, by simpa using h.size, fun j hj => (World.putObj_heap_other (by omega)).trans (h.block j hj)⟩
theorem EnvW.lt4 {w : World} (h : EnvW w) : 4 < w.heap.size := by
  have h1 := h w (Ext.refl w)
  have hg : Tryz.prog.globalNamed "rollbook/glyph.widths" = some 4 := by kernel_rfl
  unfold World.var? at h1
  rw [hg] at h1
  simp only [Option.bind_some] at h1
  rcases Nat.lt_or_ge 4 w.heap.size with h9 | h9
  · exact h9
  · rw [Array.getElem?_eq_none h9] at h1
    exact absurd h1 (by simp)
theorem heap_alloc_old (W : World) (o : Obj) (j : Nat) (h : j < W.heap.size) : (W.alloc o).heap[j]? = W.heap[j]? := Below.heap_alloc _ _ _ h
theorem heap_alloc_at (W : World) (cs : Array Value) (t : TypeId) (j : Nat) (h : j = W.heap.size) : (W.alloc (.cells cs t)).heap[j]? = some (.cells cs t (0, 0)) := by subst h; exact heap_alloc_new _ _
theorem pgRp_ext {q : Nat → Prop} {x : PgV} {W W' : World} (h : pgRp q x W) (hx : Ext W W') : pgRp q x W' := ⟨h.1, h.2.1, Lay.row_ext h.2.2.1 hx, Lay.row_ext h.2.2.2.1 hx, h.2.2.2.2⟩
theorem pgRp_put {q : Nat → Prop} {x : PgV} {W : World} {l : Nat} {o : Obj} (h : pgRp q x W) (hq : ∀ j, q j → j ≠ l) : pgRp q x (W.putObj l o) :=
  ⟨h.1, h.2.1, Lay.row_keep h.2.2.1 (by simp) fun j hj _ => World.putObj_heap_other (hq j hj), Lay.row_keep h.2.2.2.1 (by simp) fun j hj _ => World.putObj_heap_other (hq j hj), h.2.2.2.2⟩
def pgCells (p : Pg) (A7 : Option Addr) (n7 c7 : Nat) (A8 : Option Addr) (n8 c8 : Nat) : Array Value := #[.int .i64 p.num, .int .i64 p.suf, .int .i64 p.ent, .int .i64 p.ver, .slice A7 n7 c7, .slice A8 n8 c8]
def lbIs (num suf : Int) (p : Pg) : Bool := decide (p.num = num ∧ p.suf = suf)
/-- Between two rounds: no page has had the label. -/
structure PgI (w : World) (num suf : Int) (pre : List PgV) (q : Nat → Prop) (W : World) : Prop where
  x : Ext w W
  s : w.heap.size + 7 ≤ W.heap.size
  q : ∀ j, q j → j < w.heap.size ∨ j = w.heap.size + 4 ∨ w.heap.size + 7 ≤ j
  l : W.heap[w.heap.size + 1]? = some (.cells #[.int .i64 num, .int .i64 suf] 64 (0, 0))
  r : W.heap[w.heap.size + 2]? = some (.cells (pgCells ⟨0, 0, 0, 0, [], []⟩ none 0 0 none 0 0) 84 (0, 0))
  b : W.heap[w.heap.size + 3]? = some (.cells #[.bool false] 4 (0, 0))
  n : (pre.map (·.1)).find? (lbIs num suf) = none
/-- A page has had it. -/
structure PgX (w : World) (num suf : Int) (c : Code) (pre : List PgV) (q : Nat → Prop) (W : World) : Prop where
  c : c = .ret
  x : Ext w W
  s : w.heap.size + 8 ≤ W.heap.size
  p : ∃ (p : Pg) (A7 : Option Addr) (n7 c7 : Nat) (A8 : Option Addr) (n8 c8 : Nat), (pre.map (·.1)).find? (lbIs num suf) = some p ∧ n7 ≤ c7 ∧ n8 ≤ c8 ∧
    kLn.row W (fun j => w.heap.size + 8 ≤ j) A7 n7 p.body ∧ kLn.row W (fun j => w.heap.size + 8 ≤ j) A8 n8 p.nts ∧
    W.heap[w.heap.size + 2]? = some (.cells (pgCells p A7 n7 c7 A8 n8 c8) 84 (0, 0))
  b : W.heap[w.heap.size + 3]? = some (.cells #[.bool true] 4 (0, 0))
theorem PgI.ab {w wl : World} {num suf : Int} (hs : wl.heap.size = w.heap.size + 5) : AbMv (wl.heap.size + 2) (PgI w num suf) := by
  intro s Q Q' A B h hm hg
  have hsz := h.s
  refine ⟨hm.ext w (by omega) h.x, Nat.le_trans h.s hm.size, fun j hj => ?_, hm.blk (by omega) h.l, hm.blk (by omega) h.r, hm.blk (by omega) h.b, h.n⟩
  rcases hg j hj with h1 | h1 | h1
  · exact h.q j h1
  · omega
  · omega
theorem PgI.put {w wl : World} {num suf : Int} (hs : wl.heap.size = w.heap.size + 5) {s : List PgV} {q : Nat → Prop} {W : World} {o : Obj} (h : PgI w num suf s q W) : PgI w num suf s q (W.putObj (wl.heap.size + 1) o) :=
  ⟨h.x.putObj (by omega) o, by simpa using h.s, h.q, (World.putObj_heap_other (by omega)).trans h.l, (World.putObj_heap_other (by omega)).trans h.r, (World.putObj_heap_other (by omega)).trans h.b, h.n⟩
theorem PgX.ab {w wl : World} {num suf : Int} (hs : wl.heap.size = w.heap.size + 5) (c : Code) : AbMv (wl.heap.size + 2) (PgX w num suf c) := by
  intro s Q Q' A B h hm hg
  obtain ⟨p, A7, n7, c7, A8, n8, c8, h1, h2, h3, h4, h5, h6⟩ := h.p
  have hsz := h.s
  exact ⟨h.c, hm.ext w (by omega) h.x, Nat.le_trans h.s hm.size, ⟨p, A7, n7, c7, A8, n8, c8, h1, h2, h3, Lay.row_keep h4 hm.size fun j hj hl => hm.keep j (by omega) hl, Lay.row_keep h5 hm.size fun j hj hl => hm.keep j (by omega) hl, hm.blk (by omega) h6⟩, hm.blk (by omega) h.b⟩
theorem PgX.put {w wl : World} {num suf : Int} (hs : wl.heap.size = w.heap.size + 5) {c : Code} {s : List PgV} {q : Nat → Prop} {W : World} {k : Nat} {o : Obj} (hk : k = wl.heap.size + 1 ∨ k = wl.heap.size) (h : PgX w num suf c s q W) : PgX w num suf c s q (W.putObj k o) := by
  obtain ⟨p, A7, n7, c7, A8, n8, c8, h1, h2, h3, h4, h5, h6⟩ := h.p
  exact ⟨h.c, h.x.putObj (by omega) o, by simpa using h.s, ⟨p, A7, n7, c7, A8, n8, c8, h1, h2, h3, Lay.row_keep h4 (by simp) fun j hj hl => World.putObj_heap_other (by omega), Lay.row_keep h5 (by simp) fun j hj hl => World.putObj_heap_other (by omega), (World.putObj_heap_other (by omega)).trans h6⟩, (World.putObj_heap_other (by omega)).trans h.b⟩
end Go.Proofs.YtdbnddmncbjobaaGreatDoor

/- cmp.Or, label.Less, compare: walked. -/
namespace Go.Proofs.YtdbnddmncbjobaaGreatDoor
open Go Go.RowKit Go.Sort
attribute [local go_sem] Oper.semAt_some

def OrRel (W0 : World) (c0 c1 : Int) (s8 : Value) (w' : World) : Prop := ∃ i : Nat, i ≤ 2 ∧ s8 = .int .i64 i ∧ (1 ≤ i → c0 = 0) ∧ (2 ≤ i → c1 = 0) ∧ W0 = w'
set_option maxHeartbeats 4000000 in
set_option maxRecDepth 100000 in
theorem or_two (w : World) (b : Nat) (c0 c1 : Int) (h0 : w.cell? ⟨b, 0, none⟩ = some (.int .i64 c0)) (h1 : w.cell? ⟨b, 1, none⟩ = some (.int .i64 c1)) :
    Calls Tryz.prog 169 #[.slice (some ⟨b, 0, none⟩) 2 2] w fun e w' => e = .returned (.int .i64 (if c0 = 0 then c1 else c0)) ∧ w = w' := by
  obtain ⟨r, hr⟩ : ∃ r, (if c0 = 0 then c1 else c0) = r := ⟨_, rfl⟩
  rw [hr]
  have HR := Lib.hid hr
  clear hr
  go_enter Tryz.func169, Tryz.ntmps169
  go_wp2_with fail
  go_loopw [5, 8] (fun _ s8 w' => OrRel w c0 c1 s8 w') (fun _ s8 _ => toM 2 s8)
  case atStart => exact ⟨0, by omega, rfl, by omega, by omega, rfl⟩
  case round =>
    obtain ⟨i, hi, rfl, k0, k1, rfl⟩ := hrel
    have K0 := Lib.hid k0
    have K1 := Lib.hid k1
    clear k0 k1
    obtain rfl | rfl | rfl : i = 0 ∨ i = 1 ∨ i = 2 := by omega
    · by_cases hc : c0 = 0
      · have HC := Lib.hid hc
        have d : (c0 != 0) = false := by simpa using hc
        clear hc
        go_wp2_with fail
        go_roundw
        case rel => exact ⟨1, by omega, rfl, fun _ => HC.out, by omega, rfl⟩
        case measure => simp [toM]
      · have d : (c0 != 0) = true := by simpa using hc
        have HF := Lib.hid (show r = c0 from by rw [← HR.out, if_neg hc])
        clear hc
        go_wp2_with fail
        go_ret
        exact ⟨ret_i HF.out.symm, rfl⟩
    · have HC := Lib.hid (K0.out (by omega))
      by_cases hc : c1 = 0
      · have HC1 := Lib.hid hc
        have d : (c1 != 0) = false := by simpa using hc
        clear hc
        go_wp2_with fail
        go_roundw
        case rel => exact ⟨2, by omega, rfl, fun _ => HC.out, fun _ => HC1.out, rfl⟩
        case measure => simp [toM]
      · have d : (c1 != 0) = true := by simpa using hc
        have HF := Lib.hid (show r = c1 from by rw [← HR.out, if_pos HC.out])
        clear hc
        go_wp2_with fail
        go_ret
        exact ⟨ret_i HF.out.symm, rfl⟩
    · have HF := Lib.hid (show r = 0 from by rw [← HR.out, if_pos (K0.out (by omega)), K1.out (by omega)])
      go_wp2_with fail
      go_ret
      exact ⟨ret_i HF.out.symm, rfl⟩
/-- The world has grown: draws and new blocks. -/
def Gr (w w' : World) : Prop := ∃ q os, w' = grow (w.drewN q) os
theorem gr_of {w w' : World} (h : Ext w w') (hd : w.drawn ≤ w'.drawn) : Gr w w' := by
  obtain ⟨h1, h2, h3, h4, h5⟩ := h
  refine ⟨w'.drawn - w.drawn, w'.heap.extract w.heap.size w'.heap.size, ?_⟩
  obtain ⟨hp, tp, dr, o, out⟩ := w'
  have hh : hp = w.heap ++ hp.extract w.heap.size hp.size := by
    apply Array.ext
    · simp; simp at h4; omega
    · intro i hi1 hi2
      rw [Array.getElem_append]
      split
      · next hlt => have := h5 i hlt; rw [Array.getElem?_eq_getElem hi1, Array.getElem?_eq_getElem hlt] at this; exact Option.some.inj this
      · next hge =>
        rw [Array.getElem_extract]
        congr 1; omega
  unfold grow World.drewN
  simp only at h1 h2 h3 hd hh ⊢
  subst h1 h2 h3
  rw [← hh]
  congr 1
  omega
theorem Gr.ext {w w' : World} (h : Gr w w') : Ext w w' := by
  obtain ⟨q, os, rfl⟩ := h
  refine ⟨rfl, rfl, rfl, ?_, fun k hk => ?_⟩
  · simp [grow, World.drewN]
  · simp only [grow, World.drewN]
    rw [Array.getElem?_append_left hk]
theorem Gr.drawn {w w' : World} (h : Gr w w') : w.drawn ≤ w'.drawn := by
  obtain ⟨q, os, rfl⟩ := h
  exact Nat.le_add_right _ _
theorem Gr.refl (w : World) : Gr w w := gr_of (Ext.refl w) (Nat.le_refl _)
theorem Gr.trans {a b c : World} (h : Gr a b) (k : Gr b c) : Gr a c := gr_of (h.ext.trans k.ext) (Nat.le_trans h.drawn k.drawn)
theorem Gr.alloc {a w : World} (h : Gr a w) (o : Obj) : Gr a (w.alloc o) := gr_of (h.ext.alloc o) h.drawn
theorem Gr.drewN {a w : World} (h : Gr a w) (n : Nat) : Gr a (w.drewN n) := gr_of (h.ext.drewN n) (Nat.le_trans h.drawn (Nat.le_add_right _ _))
theorem Gr.drew {a w : World} (h : Gr a w) : Gr a w.drew := gr_of h.ext.drew (Nat.le_trans h.drawn (Nat.le_add_right _ 1))
theorem or_two_new (W : World) (c0 c1 : Int) : Calls Tryz.prog 169 #[.slice (some ⟨W.heap.size, 0, none⟩) 2 2] (W.alloc (.cells #[.int .i64 c0, .int .i64 c1] 3)).drew fun e w' => e = .returned (.int .i64 (if c0 = 0 then c1 else c0)) ∧ (W.alloc (.cells #[.int .i64 c0, .int .i64 c1] 3)).drew = w' :=
  have h := heap_alloc_at W #[.int .i64 c0, .int .i64 c1] 3 W.heap.size rfl
  or_two _ _ _ _ (cell_of h (i := 0) rfl) (cell_of h (i := 1) rfl)
theorem lb_or (n s n' s' : Int) : decide ((if Lib.compareInt n n' = 0 then Lib.compareInt s s' else Lib.compareInt n n') < 0) = decide (LbLt n s n' s') := by
  apply decide_eq_decide.2
  unfold Lib.compareInt LbLt
  by_cases h1 : n < n'
  · simp [h1]
  · by_cases h2 : n' < n
    · simp [h1, h2]; omega
    · have e : n = n' := by omega
      subst e
      by_cases h3 : s < s'
      · simp [h3]
      · by_cases h4 : s' < s <;> simp [h3, h4]
set_option maxHeartbeats 4000000 in
set_option maxRecDepth 100000 in
theorem less_any (n s n' s' : Int) (w : World) : Calls Tryz.prog 143 #[.agg #[.int .i64 n, .int .i64 s], .agg #[.int .i64 n', .int .i64 s']] w fun e w' => e = .returned (.bool (decide (LbLt n s n' s'))) ∧ Gr w w' := by
  obtain ⟨b1, hb1⟩ : ∃ b1, w.heap.size = b1 := ⟨_, rfl⟩
  obtain ⟨r, hr⟩ : ∃ r, decide (LbLt n s n' s') = r := ⟨_, rfl⟩
  rw [hr]
  have HR := Lib.hid hr
  clear hr
  go_enter Tryz.func143, Tryz.ntmps143
  go_upto_region 1 with (fail)
  obtain ⟨W1, hW1⟩ : ∃ W1, (w.alloc (.cells #[.int .i64 n, .int .i64 s] 64)).alloc (.cells #[.int .i64 n', .int .i64 s'] 64) = W1 := ⟨_, rfl⟩
  rw [hW1]
  have hX0 : Gr w W1 := by rw [← hW1]; exact ((Gr.refl w).alloc _).alloc _
  have hB1 : W1.heap[b1]? = some (.cells #[.int .i64 n, .int .i64 s] 64 (0, 0)) := by
    rw [← hW1, ← hb1, heap_alloc_old _ _ _ (by simp)]
    exact heap_alloc_at _ _ _ _ rfl
  have hB2 : W1.heap[b1 + 1]? = some (.cells #[.int .i64 n', .int .i64 s'] 64 (0, 0)) := by
    rw [← hW1, ← hb1]
    exact heap_alloc_at _ _ _ _ (by simp)
  have l1 := lt_of_block hB1
  have l2 := lt_of_block hB2
  have HX0 := Lib.hid hX0
  have HQ := Lib.hid (fun X (hX : Gr W1 X) => (show X.cell? ⟨b1, 0, none⟩ = some (.int .i64 n) ∧ X.cell? ⟨b1, 1, none⟩ = some (.int .i64 s) ∧ X.cell? ⟨b1 + 1, 0, none⟩ = some (.int .i64 n') ∧ X.cell? ⟨b1 + 1, 1, none⟩ = some (.int .i64 s') from
    have h9 := (hX.ext.block _ l1).trans hB1
    have h8 := (hX.ext.block _ l2).trans hB2
    ⟨cell_of h9 (i := 0) rfl, cell_of h9 (i := 1) rfl, cell_of h8 (i := 0) rfl, cell_of h8 (i := 1) rfl⟩))
  have hcur : Gr W1 W1.drew := (Gr.refl _).drew
  clear hX0 hB1 hB2 l1 l2 hb1 hW1
  by_cases hE : n = n' ∧ s = s'
  · obtain ⟨rfl, rfl⟩ := hE
    have HF := Lib.hid (show r = false by rw [← HR.out]; simp [LbLt])
    obtain ⟨q0, q1, q2, q3⟩ := HQ.out _ (Gr.refl W1)
    go_quiet (fail)
    go_wp2_with fail
    go_ret
    exact ⟨by rw [HF.out]; rfl, HX0.out.trans ((Gr.refl _).drewN _)⟩
  · obtain ⟨v, hv⟩ : ∃ v, (if Lib.compareInt n n' = 0 then Lib.compareInt s s' else Lib.compareInt n n') = v := ⟨_, rfl⟩
    have HF := Lib.hid (show decide (v < 0) = r by rw [← hv, lb_or]; exact HR.out)
    have HO := Lib.hid (fun W => or_two_new W (Lib.compareInt n n') (Lib.compareInt s s'))
    rw [hv] at HO
    have HC := Lib.hid Tryz.cmp_Compare_int
    clear hv
    by_cases d1 : n = n'
    · have d2 : (s == s') = false := by simpa using fun e => hE ⟨d1, e⟩
      subst d1
      clear hE
      go_region_held3 (fun W => W.cell? ⟨b1, 0, none⟩ = some (.int .i64 n) ∧ W.cell? ⟨b1, 1, none⟩ = some (.int .i64 s) ∧ W.cell? ⟨b1 + 1, 0, none⟩ = some (.int .i64 n) ∧ W.cell? ⟨b1 + 1, 1, none⟩ = some (.int .i64 s')) (first | exact HQ.out _ hcur | exact HQ.out _ ((Gr.refl _).alloc _).drew) (first
        | (go_at_call 142; refine (HC.out _ _ _).mono ?_; rintro e w9 ⟨rfl, rfl⟩)
        | (go_at_call 169; refine (HO.out _).mono ?_; rintro e w9 ⟨rfl, rfl⟩))
      all_goals
        go_wp2_with fail
        go_ret
        exact ⟨by rw [← HF.out]; rfl, HX0.out.trans ((Gr.refl _).alloc _).drew⟩
    · have d2 : (n == n') = false := by simpa using d1
      clear hE d1
      go_region_held3 (fun W => W.cell? ⟨b1, 0, none⟩ = some (.int .i64 n) ∧ W.cell? ⟨b1, 1, none⟩ = some (.int .i64 s) ∧ W.cell? ⟨b1 + 1, 0, none⟩ = some (.int .i64 n') ∧ W.cell? ⟨b1 + 1, 1, none⟩ = some (.int .i64 s')) (first | exact HQ.out _ hcur | exact HQ.out _ ((Gr.refl _).alloc _).drew) (first
        | (go_at_call 142; refine (HC.out _ _ _).mono ?_; rintro e w9 ⟨rfl, rfl⟩)
        | (go_at_call 169; refine (HO.out _).mono ?_; rintro e w9 ⟨rfl, rfl⟩))
      all_goals
        go_wp2_with fail
        go_ret
        exact ⟨by rw [← HF.out]; rfl, HX0.out.trans ((Gr.refl _).alloc _).drew⟩
end Go.Proofs.YtdbnddmncbjobaaGreatDoor

/- compare: walked. -/
namespace Go.Proofs.YtdbnddmncbjobaaGreatDoor
open Go Go.RowKit Go.Sort
attribute [local go_sem] Oper.semAt_some

def cCmp (a b : Ct) : Int := if CLt a b then -1 else if CLt b a then 1 else 0
theorem cCmp_lt (a b : Ct) : cCmp a b < 0 ↔ CLt a b := by
  unfold cCmp
  by_cases h : CLt a b
  · simp [h]
  · by_cases h2 : CLt b a <;> simp [h, h2]
theorem cmpI_eq (x y : Int) : Lib.compareInt x y = if x < y then -1 else if y < x then 1 else 0 := rfl
theorem cCmp_br {a b : Ct} (h : a.br ≠ b.br) : cCmp a b = Lib.compareInt a.br b.br := by
  rw [cmpI_eq]
  unfold cCmp
  have e1 : CLt a b ↔ a.br < b.br := by unfold CLt; omega
  have e2 : CLt b a ↔ b.br < a.br := by unfold CLt; omega
  simp only [e1, e2]
theorem cCmp_l1 {a b : Ct} (h : a.br = b.br) (h1 : LbLt a.nu a.su b.nu b.su) : cCmp a b = -1 := by
  unfold cCmp
  rw [if_pos (by unfold CLt; unfold LbLt at h1; omega)]
theorem cCmp_l2 {a b : Ct} (h : a.br = b.br) (h1 : LbLt b.nu b.su a.nu a.su) : cCmp a b = 1 := by
  unfold cCmp
  rw [if_neg (by unfold CLt; unfold LbLt at h1; omega), if_pos (by unfold CLt; unfold LbLt at h1; omega)]
theorem cCmp_li {a b : Ct} (h : a.br = b.br) (h1 : ¬ LbLt a.nu a.su b.nu b.su) (h2 : ¬ LbLt b.nu b.su a.nu a.su) : cCmp a b = Lib.compareInt a.li b.li := by
  rw [cmpI_eq]
  unfold cCmp
  have e1 : CLt a b ↔ a.li < b.li := by unfold CLt; unfold LbLt at h1 h2; omega
  have e2 : CLt b a ↔ b.li < a.li := by unfold CLt; unfold LbLt at h1 h2; omega
  simp only [e1, e2]
set_option maxHeartbeats 400000 in
set_option maxRecDepth 100000 in
theorem compare_any (a b : Ct) (w : World) : Calls Tryz.prog 112 #[ctV a, ctV b] w fun e w' => e = .returned (.int .i64 (cCmp a b)) ∧ Gr w w' := by
  obtain ⟨v, hv⟩ : ∃ v, cCmp a b = v := ⟨_, rfl⟩
  rw [hv]
  obtain ⟨r1, n1, s1, l1⟩ := a
  obtain ⟨r2, n2, s2, l2⟩ := b
  unfold ctV
  have HC := Lib.hid Tryz.cmp_Compare_int
  obtain ⟨b1, hb1⟩ : ∃ b1, w.heap.size = b1 := ⟨_, rfl⟩
  have HV := Lib.hid hv
  clear hv
  have HL1 := Lib.hid (fun W => less_any n1 s1 n2 s2 W)
  have HL2 := Lib.hid (fun W => less_any n2 s2 n1 s1 W)
  go_enter Tryz.func112, Tryz.ntmps112
  go_upto_region 1 with (fail)
  obtain ⟨W1, hW1⟩ : ∃ W1, (w.alloc (.cells #[.int .i64 r1, .int .i64 n1, .int .i64 s1, .int .i64 l1] 69)).alloc (.cells #[.int .i64 r2, .int .i64 n2, .int .i64 s2, .int .i64 l2] 69) = W1 := ⟨_, rfl⟩
  rw [hW1]
  have hX0 : Gr w W1 := by rw [← hW1]; exact ((Gr.refl w).alloc _).alloc _
  have hB1 : W1.heap[b1]? = some (.cells #[.int .i64 r1, .int .i64 n1, .int .i64 s1, .int .i64 l1] 69 (0, 0)) := by
    rw [← hW1, ← hb1, heap_alloc_old _ _ _ (by simp)]
    exact heap_alloc_at _ _ _ _ rfl
  have hB2 : W1.heap[b1 + 1]? = some (.cells #[.int .i64 r2, .int .i64 n2, .int .i64 s2, .int .i64 l2] 69 (0, 0)) := by
    rw [← hW1, ← hb1]
    exact heap_alloc_at _ _ _ _ (by simp)
  have k1 := lt_of_block hB1
  have k2 := lt_of_block hB2
  have HX0 := Lib.hid hX0
  have HQ := Lib.hid (fun X (hX : Gr W1 X) => (show (X.cell? ⟨b1, 0, none⟩ = some (.int .i64 r1) ∧ X.cell? ⟨b1, 1, none⟩ = some (.int .i64 n1) ∧ X.cell? ⟨b1, 2, none⟩ = some (.int .i64 s1) ∧ X.cell? ⟨b1, 3, none⟩ = some (.int .i64 l1)) ∧
      (X.cell? ⟨b1 + 1, 0, none⟩ = some (.int .i64 r2) ∧ X.cell? ⟨b1 + 1, 1, none⟩ = some (.int .i64 n2) ∧ X.cell? ⟨b1 + 1, 2, none⟩ = some (.int .i64 s2) ∧ X.cell? ⟨b1 + 1, 3, none⟩ = some (.int .i64 l2)) from
    have h9 := (hX.ext.block _ k1).trans hB1
    have h8 := (hX.ext.block _ k2).trans hB2
    ⟨⟨cell_of h9 (i := 0) rfl, cell_of h9 (i := 1) rfl, cell_of h9 (i := 2) rfl, cell_of h9 (i := 3) rfl⟩, ⟨cell_of h8 (i := 0) rfl, cell_of h8 (i := 1) rfl, cell_of h8 (i := 2) rfl, cell_of h8 (i := 3) rfl⟩⟩))
  obtain ⟨⟨q0, q1, q2, q3⟩, ⟨t0, t1, t2, t3⟩⟩ := HQ.out _ (Gr.refl W1)
  clear hX0 hB1 hB2 k1 k2 hb1 hW1
  by_cases hr : r1 = r2
  case neg =>
    have d1 : (r1 != r2) = true := by simpa using hr
    have HF := Lib.hid ((cCmp_br (a := ⟨r1, n1, s1, l1⟩) (b := ⟨r2, n2, s2, l2⟩) hr).symm.trans HV.out)
    clear hr
    go_wp2_with (go_at_call 142; refine (HC.out _ _ _).mono ?_; rintro e w9 ⟨rfl, rfl⟩)
    go_ret
    exact ⟨ret_i HF.out, HX0.out⟩
  have d1 : (r1 != r2) = false := by simpa using hr
  by_cases h1 : LbLt n1 s1 n2 s2
  · have g1 : decide (LbLt n1 s1 n2 s2) = true := by simpa using h1
    rw [g1] at HL1
    have HF := Lib.hid ((cCmp_l1 (a := ⟨r1, n1, s1, l1⟩) (b := ⟨r2, n2, s2, l2⟩) hr h1).symm.trans HV.out)
    clear hr h1 g1
    go_wp2_with (go_at_call 143; refine (HL1.out _).mono ?_; rintro e w9 ⟨rfl, hG⟩)
    go_ret
    exact ⟨ret_i HF.out, HX0.out.trans hG⟩
  have g1 : decide (LbLt n1 s1 n2 s2) = false := by simpa using h1
  rw [g1] at HL1
  by_cases h2 : LbLt n2 s2 n1 s1
  · have g2 : decide (LbLt n2 s2 n1 s1) = true := by simpa using h2
    rw [g2] at HL2
    have HF := Lib.hid ((cCmp_l2 (a := ⟨r1, n1, s1, l1⟩) (b := ⟨r2, n2, s2, l2⟩) hr h2).symm.trans HV.out)
    clear hr h1 h2 g1 g2
    go_wp2_with (first
      | (go_at_call 143; have _t := HL1; refine (HL1.out _).mono ?_; rintro e w9 ⟨rfl, hG⟩; obtain ⟨⟨q0, q1, q2, q3⟩, ⟨t0, t1, t2, t3⟩⟩ := HQ.out _ hG; have HG := Lib.hid hG; clear hG HL1 _t)
      | (go_at_call 143; refine (HL2.out _).mono ?_; rintro e w8 ⟨rfl, hG⟩; have HG2 := Lib.hid hG; clear hG))
    go_ret
    exact ⟨ret_i HF.out, (HX0.out.trans HG.out).trans HG2.out⟩
  · have g2 : decide (LbLt n2 s2 n1 s1) = false := by simpa using h2
    rw [g2] at HL2
    have HF := Lib.hid ((cCmp_li (a := ⟨r1, n1, s1, l1⟩) (b := ⟨r2, n2, s2, l2⟩) hr h1 h2).symm.trans HV.out)
    clear hr h1 h2 g1 g2
    go_wp2_with (first
      | (go_at_call 143; have _t := HL1; refine (HL1.out _).mono ?_; rintro e w9 ⟨rfl, hG⟩; obtain ⟨⟨q0, q1, q2, q3⟩, ⟨t0, t1, t2, t3⟩⟩ := HQ.out _ hG; have HG := Lib.hid hG; clear hG HL1 _t)
      | (go_at_call 143; refine (HL2.out _).mono ?_; rintro e w8 ⟨rfl, hG⟩; obtain ⟨⟨q0, q1, q2, q3⟩, ⟨t0, t1, t2, t3⟩⟩ := HQ.out _ (HG.out.trans hG); have HG2 := Lib.hid hG; clear hG)
      | (go_at_call 142; refine (HC.out _ _ _).mono ?_; rintro e w9 ⟨rfl, rfl⟩))
    go_ret
    exact ⟨ret_i HF.out, (HX0.out.trans HG.out).trans HG2.out⟩
end Go.Proofs.YtdbnddmncbjobaaGreatDoor

/- A map of rows of places. -/
namespace Go.Proofs.YtdbnddmncbjobaaGreatDoor
open Go Go.RowKit Go.Maps

def kCt : Lay Ct := (kInt.pair (kInt.pair (kInt.pair kInt))).via fun c => (c.br, c.nu, c.su, c.li)
theorem kCt_rep {W : World} {P : Nat → Prop} {c : Ct} {cs : List Value} : kCt.rep W P c cs ↔ cs = [.int .i64 c.br, .int .i64 c.nu, .int .i64 c.su, .int .i64 c.li] := by
  constructor
  · rintro ⟨_, _, rfl, rfl, _, _, rfl, rfl, _, _, rfl, rfl, rfl⟩; rfl
  · rintro rfl; exact ⟨_, _, rfl, rfl, _, _, rfl, rfl, _, _, rfl, rfl, rfl⟩
abbrev DV := DataW Value
/-- An element of the map is read as it stands. -/
def rV (v : Value) : Option (DV × List MemPlace) := some (.held v, [])
theorem lawS : Keyed Tryz.prog 9 := string_keyed Tryz.underlying9
theorem keyS {s : List UInt8} (h : s.length ≤ maxLen) : keyOf Tryz.prog 9 (.string ⟨s.toArray⟩) = some (.string s) := by
  have := WideMaps.keyOf_string_mk (P := Tryz.prog) (k := 9) Tryz.underlying9 (s := ⟨s.toArray⟩) (by simpa [ByteArray.size] using h)
  simpa using this
theorem keyLit {s : List UInt8} (h : s.length ≤ maxLen) : WideAt.IsKeyLit (.string s) := lawS.key (keyS h)
/-- The places of a key. -/
def csOf (hs : List (List UInt8 × Ct)) (k : List UInt8) : List Ct := hs.filterMap fun h => if h.1 = k then some h.2 else none
theorem csOf_append (hs hs' : List (List UInt8 × Ct)) (k : List UInt8) : csOf (hs ++ hs') k = csOf hs k ++ csOf hs' k := by unfold csOf; rw [List.filterMap_append]
theorem csOf_same (k : List UInt8) (ys : List Ct) : csOf (ys.map fun c => (k, c)) k = ys := by
  induction ys with
  | nil => rfl
  | cons y ys ih => unfold csOf at ih ⊢; simp [ih]
theorem csOf_other {k k' : List UInt8} (h : k ≠ k') (ys : List Ct) : csOf (ys.map fun c => (k, c)) k' = [] := by
  induction ys with
  | nil => rfl
  | cons y ys ih => unfold csOf at ih ⊢; simp [h]
theorem mem_csOf (hs : List (List UInt8 × Ct)) (k : List UInt8) (c : Ct) : c ∈ csOf hs k ↔ (k, c) ∈ hs := by
  unfold csOf
  simp only [List.mem_filterMap, Option.ite_none_right_eq_some, Option.some.injEq, Prod.exists]
  constructor
  · rintro ⟨a, b, h, rfl, rfl⟩; exact h
  · intro h; exact ⟨k, c, h, rfl, rfl⟩
def AtK (D : DV) (k : List UInt8) (v : Value) : Prop := ∀ z, D.atKey (.string k) z = .held v
theorem AtK.one {D : DV} {k : List UInt8} {v v' : Value} (h : AtK D k v) (h' : AtK D k v') : v = v' := by
  have := (h .nil).symm.trans (h' .nil)
  injection this
/-- Block b is a map from keys to rows of the places that came with them, each in a block of its own from B on. -/
structure GMap (B b n : Nat) (hs : List (List UInt8 × Ct)) (D : DV) (W : World) : Prop where
  own : W.ownsMap Tryz.prog 9 rV b n D
  lt : b < B
  key : ∀ h ∈ hs, h.1.length ≤ maxLen
  has : ∀ k, has D (.string k) = true ↔ csOf hs k ≠ []
  row : ∀ k, csOf hs k ≠ [] → ∃ v, AtK D k v ∧ kCt.own 69 W B (fun _ => False) v (csOf hs k)
  ap : ∀ k k' v v', k ≠ k' → csOf hs k ≠ [] → csOf hs k' ≠ [] → AtK D k v → AtK D k' v' → ∀ j, v.ownBlock = some j → v'.ownBlock ≠ some j
theorem GMap.made (W : World) : GMap (W.heap.size + 1) W.heap.size 0 [] (.map []) (W.alloc (.map #[] 0)) where
  own := World.ownsMap_made W Tryz.prog 9 rV
  lt := Nat.lt_succ_self _
  key h hh := by cases hh
  has k := by simp [csOf, Maps.has]
  row k h := absurd rfl h
  ap k _ _ _ _ h := absurd rfl h
theorem GMap.keep {B b n : Nat} {hs : List (List UInt8 × Ct)} {D : DV} {W W' : World} (h : GMap B b n hs D W) (hg : W.grownBy W' none) : GMap B b n hs D W' :=
  ⟨h.own.kept hg (by simp), h.lt, h.key, h.has, fun k hk => by
    obtain ⟨v, h1, h2⟩ := h.row k hk
    exact ⟨v, h1, Lay.own_keep h2 hg.size fun j _ hj => hg.block j hj (by simp)⟩, h.ap⟩
theorem GMap.look {B b n : Nat} {hs : List (List UInt8 × Ct)} {D : DV} {W : World} (h : GMap B b n hs D W) {k : List UInt8} (hk : k.length ≤ maxLen) :
    ∃ v, (Instr.lookup 105 (.map (some b)) (.string ⟨k.toArray⟩) false).run Tryz.prog W = .ok v W ∧ kCt.own 69 W B (fun _ => False) v (csOf hs k) ∧
      ∀ k' v', k ≠ k' → csOf hs k' ≠ [] → AtK D k' v' → ∀ j, v.ownBlock = some j → v'.ownBlock ≠ some j := by
  obtain ⟨v, ps, hrun, hv⟩ := h.own.lookup (t := 105) (e := 38) lawS Tryz.underlying105 (z := .slice none 0 0) (Tryz.zeroValue38 W) (zd := .held (.slice none 0 0)) (zp := []) rfl (keyS hk)
  refine ⟨v, hrun, ?_⟩
  have e1 : D.atKey (.string k) (.held (.slice none 0 0)) = .held v := by
    unfold rV at hv; simp only [Option.some.injEq, Prod.mk.injEq] at hv; exact hv.1.symm
  by_cases hc : csOf hs k = []
  · have hf : Maps.has D (.string k) = false := by
      cases h9 : Maps.has D (.string k)
      · rfl
      · exact absurd hc ((h.has k).1 h9)
    rw [atKey_of_not_has hf] at e1
    injection e1 with e1
    subst e1
    rw [hc]
    exact ⟨Lay.own_nil _ _ _ _ _, fun _ _ _ _ _ j hj => by simp [Value.ownBlock] at hj⟩
  · obtain ⟨v2, h2, h3⟩ := h.row k hc
    rw [h2] at e1
    injection e1 with e1
    subst e1
    exact ⟨h3, fun k' v' hne hk' hv' => h.ap k k' v2 v' hne hc hk' h2 hv'⟩
/-- The row v of the key k has been put into another state, or moved: the map with it at k. -/
theorem GMap.store {B b n : Nat} {hs : List (List UInt8 × Ct)} {D : DV} {W W1 : World} (h : GMap B b n hs D W) {k : List UInt8} (hk : k.length ≤ maxLen) (hn : n < maxLen) {v v' : Value} {ys : List Ct} (hy : ys ≠ [])
    (hv : ∀ k' v', k ≠ k' → csOf hs k' ≠ [] → AtK D k' v' → ∀ j, v.ownBlock = some j → v'.ownBlock ≠ some j) (hvB : ∀ j, v.ownBlock = some j → B ≤ j)
    (hs1 : W.heap.size ≤ W1.heap.size) (hk1 : ∀ j, j < W.heap.size → v.ownBlock ≠ some j → W1.heap[j]? = W.heap[j]?)
    (hv' : kCt.own 69 W1 B (fun _ => False) v' (csOf hs k ++ ys)) (hl : ∀ j, v'.ownBlock = some j → v.ownBlock = some j ∨ W.heap.size ≤ j) :
    ∃ W2, (Instr.mapUpdate 105 (.map (some b)) (.string ⟨k.toArray⟩) v').run Tryz.prog W1 = .ok () W2 ∧ GMap B b (n + 1) (hs ++ ys.map fun c => (k, c)) (D.put (.string k) (.held v')) W2 ∧ W1.grownBy W2 (some b) := by
  have hbl := h.own.lt
  have hown1 : W1.ownsMap Tryz.prog 9 rV b n D := by
    obtain ⟨es, clock, hb, F, hsz, hD⟩ := h.own
    refine ⟨es, clock, (hk1 b hbl fun e => ?_).trans hb, F, hsz, hD⟩
    have := hvB b e
    have := h.lt
    omega
  obtain ⟨W2, hrun, hown2, hg⟩ := hown1.update (t := 105) (e := 38) lawS Tryz.underlying105 hn (key := .string ⟨k.toArray⟩) (val := v') (kl := .string k) (d := .held v') (ps := []) (keyS hk) rfl
  have hm : IsMap D := by obtain ⟨es, _, _, _, _, rfl⟩ := h.own; exact ⟨_, rfl⟩
  have hne : ∀ {k' : List UInt8}, k ≠ k' → Lit.string k' ≠ Lit.string k := fun hne e => hne (Lit.string.inj e).symm
  have hcs : ∀ {k' : List UInt8}, k ≠ k' → csOf (hs ++ ys.map fun c => (k, c)) k' = csOf hs k' := fun hne => by rw [csOf_append, csOf_other hne, List.append_nil]
  have hck : csOf (hs ++ ys.map fun c => (k, c)) k = csOf hs k ++ ys := by rw [csOf_append, csOf_same]
  have hput : AtK (D.put (.string k) (.held v')) k v' := fun z => atKey_put_same hm (keyLit hk) _ _
  have hoth : ∀ {k' : List UInt8} {u : Value}, k ≠ k' → (AtK (D.put (.string k) (.held v')) k' u ↔ AtK D k' u) := fun hn' => by
    unfold AtK; simp only [atKey_put_other (hne hn')]
  have hnb : ∀ {u : Value} {cs : List Ct} {X : World}, kCt.own 69 X B (fun _ => False) u cs → ∀ j, u.ownBlock = some j → j ≠ b := fun ho j hj e => by
    have := (Lay.own_lt ho j hj).1; have := h.lt; omega
  refine ⟨W2, hrun, ⟨hown2, h.lt, fun x hx => ?_, fun k' => ?_, fun k' hk' => ?_, fun k1 k2 v1 v2 h12 h1 h2 a1 a2 => ?_⟩, hg⟩
  · rcases List.mem_append.1 hx with hx | hx
    · exact h.key x hx
    · obtain ⟨c, _, rfl⟩ := List.mem_map.1 hx; exact hk
  · by_cases e : k = k'
    · subst e
      rw [has_put_same hm (keyLit hk), hck]
      simp [hy]
    · rw [has_put_other (hne e), hcs e, h.has]
  · by_cases e : k = k'
    · subst e
      refine ⟨v', hput, ?_⟩
      rw [hck]
      exact Lay.own_keep hv' hg.size fun j hj hjl => hg.block j hjl (by
        rcases hj with hj | hj
        · exact hj.elim
        · intro e; injection e with e; exact hnb hv' j hj e)
    · rw [hcs e] at hk' ⊢
      obtain ⟨u, h1, h2⟩ := h.row k' hk'
      refine ⟨u, (hoth e).2 h1, ?_⟩
      have h3 : kCt.own 69 W1 B (fun _ => False) u (csOf hs k') := Lay.own_keep h2 hs1 fun j hj hjl => hk1 j hjl (by
        rcases hj with hj | hj
        · exact hj.elim
        · intro e9; exact hv k' u e hk' h1 j e9 hj)
      exact Lay.own_keep h3 hg.size fun j hj hjl => hg.block j hjl (by
        rcases hj with hj | hj
        · exact hj.elim
        · intro e; injection e with e; exact hnb h3 j hj e)
  · have key : ∀ {k' : List UInt8} {u : Value}, k ≠ k' → csOf hs k' ≠ [] → AtK D k' u → ∀ j, v'.ownBlock = some j → u.ownBlock ≠ some j := fun {k' u} hn' hc ha j hj hu => by
      rcases hl j hj with h9 | h9
      · exact hv k' u hn' hc ha j h9 hu
      · obtain ⟨u2, b1, b2⟩ := h.row k' hc
        rw [AtK.one ha b1] at hu
        have := (Lay.own_lt b2 j hu).2
        omega
    by_cases e1 : k = k1
    · subst e1
      rw [hcs h12] at h2
      rw [hoth h12] at a2
      rw [AtK.one a1 hput]
      exact key h12 h2 a2
    · by_cases e2 : k = k2
      · subst e2
        rw [hcs e1] at h1
        rw [hoth e1] at a1
        rw [AtK.one a2 hput]
        exact fun j hj hu => key e1 h1 a1 j hu hj
      · rw [hcs e1] at h1
        rw [hcs e2] at h2
        exact h.ap k1 k2 v1 v2 h12 h1 h2 ((hoth e1).1 a1) ((hoth e2).1 a2)
end Go.Proofs.YtdbnddmncbjobaaGreatDoor

/- strings.Compare and slices.SortFunc of places and of items, laid (print of lay-plain.mjs). -/
namespace Go.Proofs
open Go.Shelf
def Tryz.lays106u_ren : Go.Shelf.Ren := ⟨fun | 106 => 68 | 213 => 122 | 265 => 147 | n => n, fun | 9 => 9 | 3 => 3 | n => n, fun | n => n⟩
theorem Tryz.lays106u : Go.Proofs.Lays.n106 Tryz.prog Tryz.lays106u_ren := {
  mixed := by kernel_rfl
  f106 := Tryz.func68.trans (congrArg some (by kernel_rfl))
  f213 := Tryz.func122.trans (congrArg some (by kernel_rfl))
  f265 := Tryz.func147.trans (congrArg some (by kernel_rfl))
  t3 := Tryz.underlying3
  a3 := Tryz.isAgg3
  z3 := Tryz.sizeOf3
  v3 := Tryz.zeroValue3
  t9 := Tryz.underlying9
  a9 := Tryz.isAgg9
  z9 := Tryz.sizeOf9
  v9 := Tryz.zeroValue9 }
def Tryz.sortCt_ren : Go.Shelf.Ren := ⟨fun | 6 => 111 | 15 => 141 | 14 => 140 | 28 => 166 | 29 => 167 | 20 => 158 | 21 => 159 | 22 => 160 | 23 => 161 | 24 => 162 | 25 => 163 | 26 => 164 | 27 => 165 | 46 => 201 | 47 => 202 | 48 => 203 | 49 => 204 | 50 => 205 | 57 => 232 | n => n, fun | 22 => 38 | 24 => 69 | 25 => 165 | 3 => 3 | 39 => 174 | 0 => 0 | 53 => 182 | 55 => 214 | 4 => 4 | 46 => 207 | 45 => 206 | 50 => 114 | 5 => 5 | 9 => 9 | 66 => 241 | 70 => 245 | 76 => 269 | 77 => 270 | n => n, fun | n => n⟩
theorem Tryz.sortCt : Go.Proofs.SlLaysF0.n6 Tryz.prog Tryz.sortCt_ren := {
  mixed := by kernel_rfl
  f6 := ⟨Tryz.f111.name, by decide, Tryz.func111.trans (congrArg some (by kernel_rfl))⟩
  f14 := ⟨Tryz.f140.name, by decide, Tryz.func140.trans (congrArg some (by kernel_rfl))⟩
  f15 := Tryz.func141.trans (congrArg some (by kernel_rfl))
  f20 := ⟨Tryz.f158.name, by decide, Tryz.func158.trans (congrArg some (by kernel_rfl))⟩
  f21 := ⟨Tryz.f159.name, by decide, Tryz.func159.trans (congrArg some (by kernel_rfl))⟩
  f22 := ⟨Tryz.f160.name, by decide, Tryz.func160.trans (congrArg some (by kernel_rfl))⟩
  f23 := ⟨Tryz.f161.name, by decide, Tryz.func161.trans (congrArg some (by kernel_rfl))⟩
  f24 := ⟨Tryz.f162.name, by decide, Tryz.func162.trans (congrArg some (by kernel_rfl))⟩
  f25 := ⟨Tryz.f163.name, by decide, Tryz.func163.trans (congrArg some (by kernel_rfl))⟩
  f26 := ⟨Tryz.f164.name, by decide, Tryz.func164.trans (congrArg some (by kernel_rfl))⟩
  f27 := ⟨Tryz.f165.name, by decide, Tryz.func165.trans (congrArg some (by kernel_rfl))⟩
  f28 := Tryz.func166.trans (congrArg some (by kernel_rfl))
  f29 := Tryz.func167.trans (congrArg some (by kernel_rfl))
  f46 := ⟨Tryz.f201.name, by decide, Tryz.func201.trans (congrArg some (by kernel_rfl))⟩
  f47 := Tryz.func202.trans (congrArg some (by kernel_rfl))
  f48 := Tryz.func203.trans (congrArg some (by kernel_rfl))
  f49 := ⟨Tryz.f204.name, by decide, Tryz.func204.trans (congrArg some (by kernel_rfl))⟩
  f50 := ⟨Tryz.f205.name, by decide, Tryz.func205.trans (congrArg some (by kernel_rfl))⟩
  f57 := ⟨Tryz.f232.name, by decide, Tryz.func232.trans (congrArg some (by kernel_rfl))⟩
  t0 := Tryz.underlying0
  a0 := Tryz.isAgg0
  z0 := Tryz.sizeOf0
  v0 := Tryz.zeroValue0
  t3 := Tryz.underlying3
  a3 := Tryz.isAgg3
  z3 := Tryz.sizeOf3
  v3 := Tryz.zeroValue3
  t4 := Tryz.underlying4
  a4 := Tryz.isAgg4
  z4 := Tryz.sizeOf4
  v4 := Tryz.zeroValue4
  t5 := Tryz.underlying5
  a5 := Tryz.isAgg5
  z5 := Tryz.sizeOf5
  v5 := Tryz.zeroValue5
  t9 := Tryz.underlying9
  a9 := Tryz.isAgg9
  z9 := Tryz.sizeOf9
  v9 := Tryz.zeroValue9
  t22 := Tryz.underlying38
  a22 := Tryz.isAgg38
  z22 := Tryz.sizeOf38
  v22 := Tryz.zeroValue38
  t25 := Tryz.underlying165
  a25 := Tryz.isAgg165
  z25 := Tryz.sizeOf165
  v25 := Tryz.zeroValue165
  t39 := Tryz.underlying174
  a39 := Tryz.isAgg174
  z39 := Tryz.sizeOf174
  v39 := Tryz.zeroValue174
  t45 := Tryz.underlying206
  a45 := Tryz.isAgg206
  z45 := Tryz.sizeOf206
  v45 := Tryz.zeroValue206
  t46 := Tryz.underlying207
  a46 := Tryz.isAgg207
  z46 := Tryz.sizeOf207
  v46 := Tryz.zeroValue207
  t50 := Tryz.underlying114
  a50 := Tryz.isAgg114
  z50 := Tryz.sizeOf114
  v50 := Tryz.zeroValue114
  t53 := Tryz.underlying182
  a53 := Tryz.isAgg182
  z53 := Tryz.sizeOf182
  v53 := Tryz.zeroValue182
  t55 := Tryz.underlying214
  a55 := Tryz.isAgg214
  z55 := Tryz.sizeOf214
  v55 := Tryz.zeroValue214
  t66 := Tryz.underlying241
  a66 := Tryz.isAgg241
  z66 := Tryz.sizeOf241
  v66 := Tryz.zeroValue241
  t70 := Tryz.underlying245
  a70 := Tryz.isAgg245
  z70 := Tryz.sizeOf245
  v70 := Tryz.zeroValue245
  t76 := Tryz.underlying269
  a76 := Tryz.isAgg269
  z76 := Tryz.sizeOf269
  v76 := Tryz.zeroValue269
  t77 := Tryz.underlying270
  a77 := Tryz.isAgg270
  z77 := Tryz.sizeOf270
  v77 := Tryz.zeroValue270 }
def Tryz.sortIt_ren : Go.Shelf.Ren := ⟨fun | 6 => 114 | 15 => 141 | 14 => 144 | 28 => 166 | 29 => 167 | 20 => 170 | 21 => 171 | 22 => 172 | 23 => 173 | 24 => 174 | 25 => 175 | 26 => 176 | 27 => 177 | 46 => 206 | 47 => 202 | 48 => 203 | 49 => 207 | 50 => 208 | 57 => 233 | n => n, fun | 22 => 33 | 24 => 99 | 25 => 167 | 3 => 3 | 39 => 174 | 0 => 0 | 53 => 182 | 55 => 214 | 4 => 4 | 46 => 207 | 45 => 206 | 50 => 114 | 5 => 5 | 9 => 9 | 66 => 241 | 70 => 245 | 76 => 269 | 77 => 270 | n => n, fun | n => n⟩
theorem Tryz.sortIt : Go.Proofs.SlLaysF0.n6 Tryz.prog Tryz.sortIt_ren := {
  mixed := by kernel_rfl
  f6 := ⟨Tryz.f114.name, by decide, Tryz.func114.trans (congrArg some (by kernel_rfl))⟩
  f14 := ⟨Tryz.f144.name, by decide, Tryz.func144.trans (congrArg some (by kernel_rfl))⟩
  f15 := Tryz.func141.trans (congrArg some (by kernel_rfl))
  f20 := ⟨Tryz.f170.name, by decide, Tryz.func170.trans (congrArg some (by kernel_rfl))⟩
  f21 := ⟨Tryz.f171.name, by decide, Tryz.func171.trans (congrArg some (by kernel_rfl))⟩
  f22 := ⟨Tryz.f172.name, by decide, Tryz.func172.trans (congrArg some (by kernel_rfl))⟩
  f23 := ⟨Tryz.f173.name, by decide, Tryz.func173.trans (congrArg some (by kernel_rfl))⟩
  f24 := ⟨Tryz.f174.name, by decide, Tryz.func174.trans (congrArg some (by kernel_rfl))⟩
  f25 := ⟨Tryz.f175.name, by decide, Tryz.func175.trans (congrArg some (by kernel_rfl))⟩
  f26 := ⟨Tryz.f176.name, by decide, Tryz.func176.trans (congrArg some (by kernel_rfl))⟩
  f27 := ⟨Tryz.f177.name, by decide, Tryz.func177.trans (congrArg some (by kernel_rfl))⟩
  f28 := Tryz.func166.trans (congrArg some (by kernel_rfl))
  f29 := Tryz.func167.trans (congrArg some (by kernel_rfl))
  f46 := ⟨Tryz.f206.name, by decide, Tryz.func206.trans (congrArg some (by kernel_rfl))⟩
  f47 := Tryz.func202.trans (congrArg some (by kernel_rfl))
  f48 := Tryz.func203.trans (congrArg some (by kernel_rfl))
  f49 := ⟨Tryz.f207.name, by decide, Tryz.func207.trans (congrArg some (by kernel_rfl))⟩
  f50 := ⟨Tryz.f208.name, by decide, Tryz.func208.trans (congrArg some (by kernel_rfl))⟩
  f57 := ⟨Tryz.f233.name, by decide, Tryz.func233.trans (congrArg some (by kernel_rfl))⟩
  t0 := Tryz.underlying0
  a0 := Tryz.isAgg0
  z0 := Tryz.sizeOf0
  v0 := Tryz.zeroValue0
  t3 := Tryz.underlying3
  a3 := Tryz.isAgg3
  z3 := Tryz.sizeOf3
  v3 := Tryz.zeroValue3
  t4 := Tryz.underlying4
  a4 := Tryz.isAgg4
  z4 := Tryz.sizeOf4
  v4 := Tryz.zeroValue4
  t5 := Tryz.underlying5
  a5 := Tryz.isAgg5
  z5 := Tryz.sizeOf5
  v5 := Tryz.zeroValue5
  t9 := Tryz.underlying9
  a9 := Tryz.isAgg9
  z9 := Tryz.sizeOf9
  v9 := Tryz.zeroValue9
  t22 := Tryz.underlying33
  a22 := Tryz.isAgg33
  z22 := Tryz.sizeOf33
  v22 := Tryz.zeroValue33
  t25 := Tryz.underlying167
  a25 := Tryz.isAgg167
  z25 := Tryz.sizeOf167
  v25 := Tryz.zeroValue167
  t39 := Tryz.underlying174
  a39 := Tryz.isAgg174
  z39 := Tryz.sizeOf174
  v39 := Tryz.zeroValue174
  t45 := Tryz.underlying206
  a45 := Tryz.isAgg206
  z45 := Tryz.sizeOf206
  v45 := Tryz.zeroValue206
  t46 := Tryz.underlying207
  a46 := Tryz.isAgg207
  z46 := Tryz.sizeOf207
  v46 := Tryz.zeroValue207
  t50 := Tryz.underlying114
  a50 := Tryz.isAgg114
  z50 := Tryz.sizeOf114
  v50 := Tryz.zeroValue114
  t53 := Tryz.underlying182
  a53 := Tryz.isAgg182
  z53 := Tryz.sizeOf182
  v53 := Tryz.zeroValue182
  t55 := Tryz.underlying214
  a55 := Tryz.isAgg214
  z55 := Tryz.sizeOf214
  v55 := Tryz.zeroValue214
  t66 := Tryz.underlying241
  a66 := Tryz.isAgg241
  z66 := Tryz.sizeOf241
  v66 := Tryz.zeroValue241
  t70 := Tryz.underlying245
  a70 := Tryz.isAgg245
  z70 := Tryz.sizeOf245
  v70 := Tryz.zeroValue245
  t76 := Tryz.underlying269
  a76 := Tryz.isAgg269
  z76 := Tryz.sizeOf269
  v76 := Tryz.zeroValue269
  t77 := Tryz.underlying270
  a77 := Tryz.isAgg270
  z77 := Tryz.sizeOf270
  v77 := Tryz.zeroValue270 }
end Go.Proofs

/- The sorts of places and of items: contracts. -/
namespace Go.Proofs.YtdbnddmncbjobaaGreatDoor
open Go Go.RowKit Go.Sort
attribute [local go_sem] Oper.semAt_some

def ctCs (c : Ct) : List Value := [.int .i64 c.br, .int .i64 c.nu, .int .i64 c.su, .int .i64 c.li]
/-- An item as it lies: its key and the slice of its places. -/
abbrev ItV := List UInt8 × Option Addr × Nat × Nat
instance : Inhabited Ct := ⟨⟨0, 0, 0, 0⟩⟩
theorem strcmp_any (a b : List UInt8) (w : World) : Calls Tryz.prog 68 #[.string ⟨a.toArray⟩, .string ⟨b.toArray⟩] w fun e w' => e = .returned (.int .i64 (Lib.compareBytes a b)) ∧ w' = w :=
  Any.strings_Compare Tryz.lays106u ⟨a.toArray⟩ ⟨b.toArray⟩ w
set_option maxRecDepth 100000 in
theorem itcmp_any (a b : List UInt8) (u v : Value) (w : World) : Calls Tryz.prog 115 #[.agg #[.string ⟨a.toArray⟩, u], .agg #[.string ⟨b.toArray⟩, v]] w fun e w' => e = .returned (.int .i64 (Lib.compareBytes a b)) ∧ Gr w w' := by
  have HC := Lib.hid (fun W => strcmp_any a b W)
  generalize Lib.compareBytes a b = r at HC ⊢
  have HX := Lib.hid (((Gr.refl w).alloc (.cells #[.string ⟨a.toArray⟩, u] 99)).alloc (.cells #[.string ⟨b.toArray⟩, v] 99))
  go_enter Tryz.func115, Tryz.ntmps115
  go_wp2_with (go_at_call 68; refine (HC.out _).mono ?_; rintro e w9 ⟨rfl, rfl⟩)
  go_ret
  exact ⟨rfl, HX.out⟩
theorem swoCt : SWO (ltOf cCmp) where
  irrefl x := by simp only [ltOf, decide_eq_false_iff_not, cCmp_lt]; exact cLt_irrefl x
  trans x y z h1 h2 := by simp only [ltOf, decide_eq_true_eq, cCmp_lt] at *; exact cLt_trans h1 h2
  ntrans x y z h1 h2 := by
    simp only [ltOf, decide_eq_false_iff_not, cCmp_lt] at *
    intro h3
    by_cases e : x = y
    · subst e; exact h2 h3
    · rcases cLt_tri e with h | h
      · exact h1 h
      · exact h2 (cLt_trans h h3)
theorem swoIt : SWO (ltOf fun x y : ItV => Lib.compareBytes x.1 y.1) where
  irrefl x := by simp only [ltOf, decide_eq_false_iff_not, cmpB_lt]; rw [sLt_irrefl]; simp
  trans x y z h1 h2 := by simp only [ltOf, decide_eq_true_eq, cmpB_lt] at *; exact sLt_trans h1 h2
  ntrans x y z h1 h2 := by
    simp only [ltOf, decide_eq_false_iff_not, cmpB_lt] at *
    intro h3
    by_cases e : x.1 = y.1
    · rw [e] at h3; exact h2 h3
    · rcases sLt_tri e with h | h
      · exact h1 h
      · exact h2 (sLt_trans h h3)
def itCs (x : ItV) : List Value := [.string ⟨x.1.toArray⟩, .slice x.2.1 x.2.2.1 x.2.2.2]
theorem cmpLaysCt (blk off size : Nat) (w : World) : CmpLays Tryz.prog 112 #[] ctCs 4 cCmp blk off size w := fun _ _ _ _ x y => compare_any x y _
theorem cmpLaysIt (blk off size : Nat) (w : World) : CmpLays Tryz.prog 115 #[] itCs 2 (fun x y : ItV => Lib.compareBytes x.1 y.1) blk off size w := fun _ _ _ _ x y => itcmp_any x.1 y.1 _ _ _
theorem sort_ct (blk cap : Nat) (d : Array Ct) (w : World) (hH : HoldsK ctCs 4 w blk 0 d) (hb : blk < w.heap.size) (hs : d.size < 4611686018427387904) :
    Calls Tryz.prog 111 #[.slice (some ⟨blk, 0, none⟩) d.size cap, .func (.func 112) #[] #[]] w fun e w' =>
      e = .returned (.tuple #[]) ∧ ∃ d' n os, PermIn 0 d.size d d' ∧ SortedIn (ltOf cCmp) 0 d.size d' ∧ w' = sortWorldK ctCs 4 w blk 0 n d' os := by
  have eg : ∀ args w, (callFunc 112 args).run Tryz.prog w = .ok (.enter 112 args) w := enters_of Tryz.func112 (by kernel_rfl) rfl
  exact AnyQ.slices_SortFunc Tryz.sortCt 4 Tryz.isAgg69 Tryz.sizeOf69 ctCs (fun _ => rfl) (fun x v hv => by simp [ctCs] at hv; rcases hv with rfl | rfl | rfl | rfl <;> rfl) cCmp swoCt 112 #[] blk 0 cap d w eg (cmpLaysCt blk 0 d.size w) hH hb hs
theorem sort_it (blk cap : Nat) (d : Array ItV) (w : World) (hH : HoldsK itCs 2 w blk 0 d) (hb : blk < w.heap.size) (hs : d.size < 4611686018427387904) :
    Calls Tryz.prog 114 #[.slice (some ⟨blk, 0, none⟩) d.size cap, .func (.func 115) #[] #[]] w fun e w' =>
      e = .returned (.tuple #[]) ∧ ∃ d' n os, PermIn 0 d.size d d' ∧ SortedIn (ltOf fun x y : ItV => Lib.compareBytes x.1 y.1) 0 d.size d' ∧ w' = sortWorldK itCs 2 w blk 0 n d' os := by
  have eg : ∀ args w, (callFunc 115 args).run Tryz.prog w = .ok (.enter 115 args) w := enters_of Tryz.func115 (by kernel_rfl) rfl
  exact AnyQ.slices_SortFunc Tryz.sortIt 2 Tryz.isAgg99 Tryz.sizeOf99 itCs (fun _ => rfl) (fun x v hv => by simp [itCs] at hv; rcases hv with rfl | rfl <;> rfl) (fun x y : ItV => Lib.compareBytes x.1 y.1) swoIt 115 #[] blk 0 cap d w eg (cmpLaysIt blk 0 d.size w) hH hb hs
end Go.Proofs.YtdbnddmncbjobaaGreatDoor

/- A row of the call's own, sorted. -/
namespace Go.Proofs.YtdbnddmncbjobaaGreatDoor
open Go Go.RowKit Go.Sort

section
variable {α : Type} [Inhabited α] {enc : α → List Value} {k : Nat}
theorem flatK_list (hk : ∀ x, (enc x).length = k) (d : List α) : (flatK enc k d.toArray).toList = d.flatMap enc := by
  have hl : (d.flatMap enc).length = d.length * k := gcells_len (cf := enc) hk d
  apply List.ext_getElem?
  intro t
  by_cases ht : t < d.length * k
  · have k0 : 0 < k := by
      rcases Nat.eq_zero_or_pos k with h | h
      · subst h; simp at ht
      · exact h
    have hi : t / k < d.length := Nat.div_lt_of_lt_mul (by rw [Nat.mul_comm]; exact ht)
    have hj : t % k < k := Nat.mod_lt _ k0
    have e : t = t / k * k + t % k := by rw [Nat.mul_comm]; exact (Nat.div_add_mod t k).symm
    have h1 := gcells_at (cf := enc) hk d (t / k) _ (List.getElem?_eq_getElem hi) (t % k) hj
    rw [← e] at h1
    have h2 : (flatK enc k d.toArray).toList[t]? = some ((enc d.toArray[t / k]!)[t % k]!) := by
      have hs : t < (flatK enc k d.toArray).size := by simpa using ht
      rw [Array.getElem?_toList, Array.getElem?_eq_getElem hs]
      have := get_flatK enc k d.toArray t (by simpa using ht)
      rw [getElem!_pos _ t hs] at this
      rw [this]
    rw [h2]
    refine Eq.trans ?_ h1.symm
    have e3 : d.toArray[t / k]! = d[t / k] := by rw [getElem!_pos _ _ (by simpa using hi)]; simp
    rw [e3, List.getElem?_eq_getElem (by rw [hk]; exact hj), getElem!_pos _ _ (by rw [hk]; exact hj)]
  · rw [List.getElem?_eq_none (by simpa using ht), List.getElem?_eq_none (by rw [hl]; omega)]
theorem holdsK_block (hk : ∀ x, (enc x).length = k) {w : World} {g : Nat} {cur : Array Value} {e : TypeId} {xs : List α} (hb : w.heap[g]? = some (.cells cur e (0, 0))) (h4 : cur.toList.take (xs.length * k) = xs.flatMap enc) : HoldsK enc k w g 0 xs.toArray := by
  intro j hj
  have hj' : j < xs.length * k := by simpa using hj
  refine ⟨?_, by simp [World.frozen?, hb]⟩
  have h1 : (cur.toList.take (xs.length * k))[j]? = ((flatK enc k xs.toArray).toList)[j]? := by rw [h4, flatK_list hk]
  rw [List.getElem?_take_of_lt hj'] at h1
  simp only [World.cell?, hb, Nat.zero_add]
  simp only [Option.isSome_none, Bool.false_eq_true, if_false]
  rw [← Array.getElem?_toList, h1, Array.getElem?_toList, Array.getElem?_eq_getElem hj, getElem!_pos _ j hj]
  rfl
theorem heap_sortedK {w : World} {g n : Nat} {os : Array Obj} {cur : Array Value} {e : TypeId} {fr : Nat × Nat} (d : Array α) (hb : w.heap[g]? = some (.cells cur e fr)) :
    (sortWorldK enc k w g 0 n d os).heap[g]? = some (.cells (putCells id 0 (flatK enc k d) cur) e fr) := by
  have hg : g < w.heap.size := (Array.getElem?_eq_some_iff.1 hb).1
  unfold sortWorldK putRowK
  rw [heap_grow_old _ _ (by simpa using hg)]
  simp [putRow, mapBlock, Sort.ahead, Array.getElem?_modify, hb, onCells]
theorem grown_sortedK {w : World} {g n : Nat} {os : Array Obj} (d : Array α) : w.grownBy (sortWorldK enc k w g 0 n d os) (some g) := by
  unfold sortWorldK putRowK
  refine ⟨rfl, rfl, rfl, by simp, fun j hj hne => ?_⟩
  rw [heap_grow_old _ _ (by simpa using hj)]
  have : g ≠ j := fun e => hne (by rw [e])
  simp [putRow, mapBlock, Sort.ahead, Array.getElem?_modify, this]
theorem take_putK (hk : ∀ x, (enc x).length = k) (cur : Array Value) (ts : List α) (h : ts.length * k ≤ cur.size) : (putCells id 0 (flatK enc k ts.toArray) cur).toList.take (ts.length * k) = ts.flatMap enc := by
  rw [← flatK_list hk]
  apply List.ext_getElem?
  intro j
  by_cases hj : j < ts.length * k
  · have hs : j < (flatK enc k ts.toArray).size := by simpa using hj
    rw [List.getElem?_take_of_lt hj, Array.getElem?_toList, Array.getElem?_toList, Array.getElem?_eq_getElem hs]
    unfold putCells
    rw [Array.getElem?_mapIdx, Array.getElem?_eq_getElem (by omega : j < cur.size)]
    simp only [Option.map_some, Nat.zero_le, Nat.zero_add, true_and, Nat.sub_zero, id]
    rw [if_pos hs, getElem!_pos _ j hs]
  · rw [List.getElem?_take_eq_none (by omega), List.getElem?_eq_none (by simpa using hj)]
theorem ownsRow_sortedK (hk : ∀ x, (enc x).length = k) {w : World} {base g cap n : Nat} {e : TypeId} {os : Array Obj} {cur : Array Value} {ts : List α} {m : Nat} (hl : ts.length = m) (hbase : base ≤ g) (hb : w.heap[g]? = some (.cells cur e (0, 0)))
    (h1 : m ≤ cap) (h2 : cap ≤ maxLen) (h3 : cur.size = cap * k) :
    (sortWorldK enc k w g 0 n ts.toArray os).ownsRow base e k (.slice (some ⟨g, 0, none⟩) m cap) m (ts.flatMap enc) := by
  subst hl
  refine ⟨gcells_len (cf := enc) hk ts, .inr ⟨g, cap, _, rfl, hbase, heap_sortedK _ hb, h1, h2, by simp [putCells, h3], ?_⟩⟩
  exact take_putK hk cur ts (by rw [h3]; exact Nat.mul_le_mul_right _ h1)
end
/-- A row of plain cells, both ways. -/
theorem ct_cells {W : World} {B : Nat} {P : Nat → Prop} {v : Value} {xs : List Ct} (h : kCt.own 69 W B P v xs) : W.ownsRow B 69 4 v xs.length (xs.flatMap ctCs) := by
  obtain ⟨ds, h1, h2, h3⟩ := h
  have e : gcells ccf ds = xs.flatMap ctCs := by
    have : ∀ (ds : List (Cs kCt.sz)) (xs : List Ct), ds.length = xs.length → (∀ (i : Nat) (d : Cs kCt.sz) (x : Ct), ds[i]? = some d → xs[i]? = some x → ccf d = ctCs x) → gcells ccf ds = xs.flatMap ctCs := by
      intro ds
      induction ds with
      | nil => intro xs hl _; cases xs with
        | nil => rfl
        | cons x xs => simp at hl
      | cons d ds ih => intro xs hl hh; cases xs with
        | nil => simp at hl
        | cons x xs =>
          have h0 := hh 0 d x rfl rfl
          have h1 := ih xs (by simpa using hl) fun i d x hd hx => hh (i + 1) d x (by simpa using hd) (by simpa using hx)
          unfold gcells at h1 ⊢
          rw [List.flatMap_cons, List.flatMap_cons, h0, h1]
    exact this ds xs h2 fun i d x hd hx => kCt_rep.1 (h3 i d x hd hx)
  unfold OL at h1
  rw [h2, e] at h1
  exact h1
theorem ctCs_one (x : Ct) : ∀ u ∈ ctCs x, u.oneCell' = true := fun u hu => by
  simp only [ctCs, List.mem_cons, List.not_mem_nil, or_false] at hu
  rcases hu with rfl | rfl | rfl | rfl <;> rfl
def ctC (x : Ct) : Cs kCt.sz := ⟨ctCs x, show (ctCs x).length = kCt.sz from rfl, ctCs_one x⟩
theorem gcells_ctC (xs : List Ct) : gcells ccf (xs.map ctC) = xs.flatMap ctCs := by
  induction xs with
  | nil => rfl
  | cons x xs ih => unfold gcells at ih ⊢; rw [List.map_cons, List.flatMap_cons, List.flatMap_cons, ih]; rfl
theorem cells_ct {W : World} {B : Nat} {P : Nat → Prop} {v : Value} {xs : List Ct} (h : W.ownsRow B 69 4 v xs.length (xs.flatMap ctCs)) : kCt.own 69 W B P v xs := by
  refine ⟨xs.map ctC, ?_, List.length_map _, fun i d x hd hx => ?_⟩
  · unfold OL
    rw [gcells_ctC, List.length_map]
    exact h
  · rw [List.getElem?_map, hx] at hd
    simp only [Option.map_some, Option.some.injEq] at hd
    subst hd
    exact kCt_rep.2 rfl
end Go.Proofs.YtdbnddmncbjobaaGreatDoor

/- Places sorted in their own row. -/
namespace Go.Proofs.YtdbnddmncbjobaaGreatDoor
open Go Go.RowKit Go.Sort

section
variable {α : Type} [Inhabited α] {lt : α → α → Bool}
theorem perm_all {d d' : Array α} (h : PermIn 0 d.size d d') : d'.toList.Perm d.toList := by
  obtain ⟨h1, _, h3⟩ := h
  have e1 : d'.extract 0 d.size = d' := by rw [← h1]; exact Array.extract_size
  have e2 : d.extract 0 d.size = d := Array.extract_size
  rwa [e1, e2] at h3
theorem sorted_all {d : Array α} {n : Nat} (hn : n = d.size) (h : SortedIn lt 0 n d) : d.toList.Pairwise fun a b => lt b a = false := by
  subst hn
  rw [List.pairwise_iff_getElem]
  intro i j hi hj hij
  have := h i j (Nat.zero_le _) hij (by simpa using hj)
  rw [getElem!_pos d i (by simpa using hi), getElem!_pos d j (by simpa using hj)] at this
  simpa using this
end
theorem sort_own (w : World) (B : Nat) (v : Value) (xs : List Ct) (h : kCt.own 69 w B (fun _ => False) v xs) (hne : xs ≠ []) (hl : xs.length ≤ 100000000) :
    Calls Tryz.prog 111 #[v, .func (.func 112) #[] #[]] w fun e w' => e = .returned (.tuple #[]) ∧ ∃ ys, ys.Perm xs ∧ (ys.Pairwise fun a b => ¬ CLt b a) ∧ kCt.own 69 w' B (fun _ => False) v ys ∧ w.grownBy w' v.ownBlock := by
  have hc := ct_cells h
  rcases hc.2 with ⟨_, h0⟩ | ⟨g, cap, cur, rfl, hbase, hb, h1, h2, h3, h4⟩
  · exact absurd (List.length_eq_zero_iff.1 h0) hne
  have hk : ∀ x, (ctCs x).length = 4 := fun _ => rfl
  have hg : g < w.heap.size := (Array.getElem?_eq_some_iff.1 hb).1
  have hs := sort_ct g cap xs.toArray w (holdsK_block hk hb h4) hg (by simp; omega)
  rw [List.size_toArray] at hs
  refine hs.mono ?_
  rintro e w' ⟨he, d', n, os, hp, hsr, rfl⟩
  have hsz : d'.size = xs.length := by have := hp.1; simpa using this
  have hp' : d'.toList.Perm xs := by
    have := perm_all (d := xs.toArray) (d' := d') (by simpa using hp)
    simpa using this
  refine ⟨he, d'.toList, hp', ?_, ?_, ?_⟩
  · refine (sorted_all (by rw [hsz]) hsr).imp fun {a b} hab => ?_
    simp only [ltOf, decide_eq_false_iff_not, cCmp_lt] at hab
    exact hab
  · have h9 := ownsRow_sortedK (enc := ctCs) hk (w := w) (base := B) (g := g) (cap := cap) (n := n) (os := os) (ts := d'.toList) (m := xs.length) (by simpa using hsz) hbase hb h1 h2 h3
    have e2 : d'.toList.length = xs.length := by simpa using hsz
    rw [← e2] at h9 ⊢
    exact cells_ct (by simpa using h9)
  · exact grown_sortedK d'
end Go.Proofs.YtdbnddmncbjobaaGreatDoor

/- slices.Compact of places, plain. -/
namespace Go.Proofs.YtdbnddmncbjobaaGreatDoor

theorem ded_snoc : ∀ (l : List Ct) (a b : Ct), dedP (l ++ [a, b]) = if a = b then dedP (l ++ [a]) else dedP (l ++ [a]) ++ [b]
  | [], a, b => by
    by_cases h : a = b
    · simp [dedP, h]
    · simp [dedP, h]
  | x :: l, a, b => by
    have ih := ded_snoc l a b
    have hne : dedP (l ++ [a]) ≠ [] := ded_ne (by simp)
    obtain ⟨y, s, hy⟩ := List.exists_cons_of_ne_nil hne
    by_cases h : a = b
    · rw [if_pos h] at ih ⊢
      rw [List.cons_append, List.cons_append]
      unfold dedP
      rw [ih]
    · rw [if_neg h] at ih ⊢
      rw [List.cons_append, List.cons_append]
      unfold dedP
      rw [ih, hy]
      simp only [List.cons_append]
      split <;> rfl
theorem take_two {xs : List Ct} {i : Nat} {a b : Ct} (ha : xs[i]? = some a) (hb : xs[i + 1]? = some b) : xs.take (i + 2) = xs.take i ++ [a, b] ∧ xs.take (i + 1) = xs.take i ++ [a] := by
  have e1 : xs.take (i + 1) = xs.take i ++ [a] := by rw [List.take_add_one, ha]; rfl
  refine ⟨?_, e1⟩
  rw [show i + 2 = (i + 1) + 1 from rfl, List.take_add_one, hb, e1]
  simp
theorem ded_step_same {xs : List Ct} {i : Nat} {a : Ct} (ha : xs[i]? = some a) (hb : xs[i + 1]? = some a) : dedP (xs.take (i + 2)) = dedP (xs.take (i + 1)) := by
  obtain ⟨e2, e1⟩ := take_two ha hb
  rw [e2, e1, ded_snoc, if_pos rfl]
theorem ded_step_new {xs : List Ct} {i : Nat} {a b : Ct} (ha : xs[i]? = some a) (hb : xs[i + 1]? = some b) (h : a ≠ b) : dedP (xs.take (i + 2)) = dedP (xs.take (i + 1)) ++ [b] := by
  obtain ⟨e2, e1⟩ := take_two ha hb
  rw [e2, e1, ded_snoc, if_neg h]
/-- So far the places before k are different from their neighbours. -/
def Pfx (xs : List Ct) (k : Nat) : Prop := dedP (xs.take k) = xs.take k
theorem Pfx.one (xs : List Ct) : Pfx xs 1 := by
  unfold Pfx
  cases xs with
  | nil => rfl
  | cons x xs => simp [dedP]
theorem Pfx.next {xs : List Ct} {k : Nat} {a b : Ct} (h : Pfx xs (k + 1)) (ha : xs[k]? = some a) (hb : xs[k + 1]? = some b) (hne : a ≠ b) : Pfx xs (k + 2) := by
  unfold Pfx at *
  rw [ded_step_new ha hb hne, h]
  obtain ⟨e2, e1⟩ := take_two ha hb
  rw [e2, e1]
  simp
/-- A place has come twice: i of the places are done, k of them stand in the row R. -/
structure CmI (xs : List Ct) (i k : Nat) (R : List Ct) : Prop where
  len : R.length = xs.length
  lt : k + 1 ≤ i
  out : R.take k = dedP (xs.take i)
  rest : ∀ j, i ≤ j + 1 → R[j]? = xs[j]?
theorem CmI.start {xs : List Ct} {k : Nat} {a : Ct} (h : Pfx xs (k + 1)) (ha : xs[k]? = some a) (hb : xs[k + 1]? = some a) : CmI xs (k + 2) (k + 1) xs :=
  ⟨rfl, Nat.le_refl _, by rw [ded_step_same ha hb]; exact h.symm, fun _ _ => rfl⟩
theorem CmI.same {xs R : List Ct} {i k : Nat} {a : Ct} (h : CmI xs (i + 1) k R) (ha : xs[i]? = some a) (hb : xs[i + 1]? = some a) : CmI xs (i + 2) k R :=
  ⟨h.len, Nat.le_succ_of_le h.lt, by rw [ded_step_same ha hb]; exact h.out, fun j hj => h.rest j (by omega)⟩
theorem CmI.new {xs R : List Ct} {i k : Nat} {a b : Ct} (h : CmI xs (i + 1) k R) (ha : xs[i]? = some a) (hb : xs[i + 1]? = some b) (hne : a ≠ b) : CmI xs (i + 2) (k + 1) (R.set k b) := by
  have hi := (List.getElem?_eq_some_iff.1 hb).1
  have hk := h.lt
  have hl := h.len
  refine ⟨by rw [List.length_set]; exact h.len, by omega, ?_, fun j hj => ?_⟩
  · rw [ded_step_new ha hb hne, ← h.out, List.take_add_one, List.take_set_of_le (Nat.le_refl k), List.getElem?_set_self (by omega)]
    rfl
  · rw [List.getElem?_set_ne (by omega)]
    exact h.rest j (by omega)
theorem CmI.fin {xs R : List Ct} {i k : Nat} (h : CmI xs i k R) (hi : xs.length ≤ i) : R.take k = dedP xs := by rw [h.out, List.take_of_length_le hi]
end Go.Proofs.YtdbnddmncbjobaaGreatDoor

/- slices.Compact of places: what lies in the row; builtin clear at places. -/
namespace Go.Proofs.YtdbnddmncbjobaaGreatDoor
open Go Go.RowKit

theorem setCells_block (g : Nat) : ∀ (vs : List Value) (o : Nat) (W : World) (cur : Array Value) (e : TypeId), W.heap[g]? = some (.cells cur e (0, 0)) →
    ∃ cur', (W.setCells g o vs).heap[g]? = some (.cells cur' e (0, 0)) ∧ cur'.size = cur.size ∧ (∀ j, j < o → cur'[j]? = cur[j]?) ∧ W.grownBy (W.setCells g o vs) (some g)
  | [], o, W, cur, e, h => ⟨cur, h, rfl, fun _ _ => rfl, ⟨rfl, rfl, rfl, Nat.le_refl _, fun _ _ _ => rfl⟩⟩
  | v :: vs, o, W, cur, e, h => by
    have h1 := heap_setCell_same W g o cur e v h
    obtain ⟨cur', k1, k2, k3, k4⟩ := setCells_block g vs (o + 1) (W.setCell ⟨g, o, none⟩ v) _ e h1
    refine ⟨cur', k1, by rw [k2]; simp, fun j hj => ?_, ⟨k4.os, k4.tape, k4.output, by have := k4.size; rwa [World.size_setCell] at this, fun j hj hne => ?_⟩⟩
    · rw [k3 j (by omega)]
      simp [show o ≠ j by omega]
    · have hjg : j ≠ g := fun e9 => hne (by rw [e9])
      exact (k4.block j (by rw [World.size_setCell]; exact hj) hne).trans (heap_setCell_other W ⟨g, o, none⟩ j v hjg)
/-- 'clear(s)' at elements of several cells. -/
theorem run_clear_many {P : Program} (w : World) (t e ty : TypeId) (z : Value) (ht : P.underlying t = some (.slice e)) (hv : ∀ w, (zeroValue e).run P w = .ok z w) (h1 : ∀ u ∈ z.cells.toList, u.oneCell' = true) (b o n c : Nat) (hn : 0 < n)
    (hc : ∀ j, j < n * z.cells.size → (w.cell? ⟨b, o + j, none⟩).isSome = true) (hf : ∀ j, w.frozen? ⟨b, j, none⟩ = false) :
    (Builtin.clear_ #[t] ty #[.slice (some ⟨b, o, none⟩) n c]).run P w = .ok (.tuple #[]) (w.setCells b o (Builtin.zeroCells z.cells n).toList) := by
  have hl : (Builtin.zeroCells z.cells n).toList.length = n * z.cells.size := by simp [Builtin.zeroCells]
  have hst := run_storeCells_cells (P := P) b o (Builtin.zeroCells z.cells n).toList 0 w (by rw [hl]; simpa using hc) (fun j _ => by simpa using hf (o + j)) (by
    intro v hv'
    simp only [Builtin.zeroCells, Array.toList_map, List.mem_map] at hv'
    obtain ⟨i, hi, rfl⟩ := hv'
    have hi' : i < n * z.cells.size := by simpa using hi
    have h0 : 0 < z.cells.size := by
      rcases Nat.eq_zero_or_pos z.cells.size with h | h
      · rw [h] at hi'; simp at hi'
      · exact h
    have hm := Nat.mod_lt i h0
    rw [getElem!_pos z.cells _ hm]
    exact h1 _ (by simp))
  simp only [Nat.add_zero] at hst
  obtain ⟨m, rfl⟩ : ∃ m, n = m + 1 := ⟨n - 1, by omega⟩
  simp [Builtin.clear_, run_underlying ht, hv, hst]
/-- Block g begins with the places R. -/
def CRow (W : World) (g N : Nat) (R : List Ct) : Prop := ∃ cur, W.heap[g]? = some (.cells cur 69 (0, 0)) ∧ cur.toList.take (R.length * 4) = R.flatMap ctCs ∧ R.length * 4 ≤ cur.size ∧ cur.size = N
theorem CRow.at {W : World} {g N : Nat} {R : List Ct} (h : CRow W g N R) {i : Nat} {x : Ct} (hi : R[i]? = some x) :
    W.cell? ⟨g, i * 4, none⟩ = some (.int .i64 x.br) ∧ W.cell? ⟨g, i * 4 + 1, none⟩ = some (.int .i64 x.nu) ∧ W.cell? ⟨g, i * 4 + 2, none⟩ = some (.int .i64 x.su) ∧ W.cell? ⟨g, i * 4 + 3, none⟩ = some (.int .i64 x.li) := by
  obtain ⟨cur, hb, ht, hs, hN⟩ := h
  have hl := (List.getElem?_eq_some_iff.1 hi).1
  have key : ∀ j u, j < 4 → (ctCs x)[j]? = some u → W.cell? ⟨g, i * 4 + j, none⟩ = some u := fun j u hj hu => by
    have h1 := gcells_at (cf := ctCs) (sz := 4) (fun _ => rfl) R i x hi j hj
    have h2 : (cur.toList.take (R.length * 4))[i * 4 + j]? = (R.flatMap ctCs)[i * 4 + j]? := by rw [ht]
    rw [List.getElem?_take_of_lt (by omega), Array.getElem?_toList] at h2
    exact cell_of hb (h2.trans (h1.trans hu))
  exact ⟨key 0 _ (by omega) rfl, key 1 _ (by omega) rfl, key 2 _ (by omega) rfl, key 3 _ (by omega) rfl⟩
theorem CRow.frozen {W : World} {g N : Nat} {R : List Ct} (h : CRow W g N R) (i : Nat) : W.frozen? ⟨g, i, none⟩ = false := by
  obtain ⟨cur, hb, _⟩ := h
  exact frozen_of hb i
theorem CRow.drew {W : World} {g N n : Nat} {R : List Ct} (h : CRow W g N R) : CRow (W.drewN n) g N R := h
/-- A place is stored. -/
def cSt4 (W : World) (g k : Nat) (x : Ct) : World := (((W.setCell ⟨g, k * 4, none⟩ (.int .i64 x.br)).setCell ⟨g, k * 4 + 1, none⟩ (.int .i64 x.nu)).setCell ⟨g, k * 4 + 2, none⟩ (.int .i64 x.su)).setCell ⟨g, k * 4 + 3, none⟩ (.int .i64 x.li)
theorem CRow.set {W : World} {g k N : Nat} {R : List Ct} (h : CRow W g N R) (x : Ct) (hk : k < R.length) : CRow (cSt4 W g k x) g N (R.set k x) ∧ W.grownBy (cSt4 W g k x) (some g) := by
  obtain ⟨cur, hb, ht, hs, hN⟩ := h
  refine ⟨⟨_, heap_setCell_same _ g _ _ 69 _ (heap_setCell_same _ g _ _ 69 _ (heap_setCell_same _ g _ _ 69 _ (heap_setCell_same _ g _ _ 69 _ hb))), ?_, by simpa using hs, by simpa using hN⟩, ⟨rfl, rfl, rfl, by simp [cSt4], fun j _ hne => ?_⟩⟩
  · rw [List.length_set]
    apply List.ext_getElem?
    intro t
    have hL : ((R.set k x).flatMap ctCs).length = R.length * 4 := by have := gcells_len (cf := ctCs) (sz := 4) (fun _ => rfl) (R.set k x); rw [List.length_set] at this; exact this
    by_cases hT : t < R.length * 4
    · rw [List.getElem?_take_of_lt hT, Array.getElem?_toList]
      have hi : t / 4 < R.length := Nat.div_lt_of_lt_mul (by rw [Nat.mul_comm]; exact hT)
      have e : t = t / 4 * 4 + t % 4 := by omega
      have hold : cur[t]? = (R.flatMap ctCs)[t]? := by
        rw [← ht, List.getElem?_take_of_lt hT, Array.getElem?_toList]
      have h1 := gcells_at (cf := ctCs) (sz := 4) (fun _ => rfl) (R.set k x) (t / 4) _ (List.getElem?_eq_getElem (by rw [List.length_set]; exact hi)) (t % 4) (by omega)
      have h2 := gcells_at (cf := ctCs) (sz := 4) (fun _ => rfl) R (t / 4) _ (List.getElem?_eq_getElem hi) (t % 4) (by omega)
      rw [← e] at h1 h2
      refine Eq.trans ?_ h1.symm
      by_cases hkt : k = t / 4
      · have hx : (R.set k x)[t / 4]'(by rw [List.length_set]; exact hi) = x := by subst hkt; simp
        rw [hx]
        have hm : t % 4 = 0 ∨ t % 4 = 1 ∨ t % 4 = 2 ∨ t % 4 = 3 := by omega
        have hcs : t < cur.size := by omega
        rcases hm with hm | hm | hm | hm
        · have et : t = k * 4 := by omega
          rw [hm, et]
          rw [et] at hcs
          simp [ctCs, hcs]
        · have et : t = k * 4 + 1 := by omega
          rw [hm, et]
          rw [et] at hcs
          simp [ctCs, hcs]
        · have et : t = k * 4 + 2 := by omega
          rw [hm, et]
          rw [et] at hcs
          simp [ctCs, hcs]
        · have et : t = k * 4 + 3 := by omega
          rw [hm, et]
          rw [et] at hcs
          simp [ctCs, hcs]
      · have hx : (R.set k x)[t / 4]'(by rw [List.length_set]; exact hi) = R[t / 4] := by rw [List.getElem_set_ne hkt]
        rw [hx, ← h2]
        rw [Array.getElem?_setIfInBounds_ne (by omega), Array.getElem?_setIfInBounds_ne (by omega), Array.getElem?_setIfInBounds_ne (by omega), Array.getElem?_setIfInBounds_ne (by omega)]
        exact hold
    · rw [List.getElem?_take_eq_none (by omega), List.getElem?_eq_none (by rw [hL]; omega)]
  · have hjg : j ≠ g := fun e9 => hne (by rw [e9])
    unfold cSt4
    rw [heap_setCell_other _ ⟨g, k * 4 + 3, none⟩ j _ hjg, heap_setCell_other _ ⟨g, k * 4 + 2, none⟩ j _ hjg, heap_setCell_other _ ⟨g, k * 4 + 1, none⟩ j _ hjg, heap_setCell_other _ ⟨g, k * 4, none⟩ j _ hjg]
/-- The row is cut at k, and what lies behind is written. -/
theorem CRow.cut {W : World} {g k N : Nat} {R : List Ct} (h : CRow W g N R) (hk : k ≤ R.length) (vs : List Value) : CRow (W.setCells g (k * 4) vs) g N (R.take k) ∧ W.grownBy (W.setCells g (k * 4) vs) (some g) := by
  obtain ⟨cur, hb, ht, hs, hN⟩ := h
  obtain ⟨cur', k1, k2, k3, k4⟩ := setCells_block g vs (k * 4) W cur 69 hb
  have hl : (R.take k).length = k := by rw [List.length_take]; omega
  refine ⟨⟨cur', k1, ?_, by rw [hl, k2]; omega, by rw [k2]; exact hN⟩, k4⟩
  rw [hl]
  have e1 : cur'.toList.take (k * 4) = cur.toList.take (k * 4) := by
    apply List.ext_getElem?
    intro j
    by_cases hj : j < k * 4
    · rw [List.getElem?_take_of_lt hj, List.getElem?_take_of_lt hj, Array.getElem?_toList, Array.getElem?_toList, k3 j hj]
    · rw [List.getElem?_take_eq_none (by omega), List.getElem?_take_eq_none (by omega)]
  have e2 : cur.toList.take (k * 4) = (cur.toList.take (R.length * 4)).take (k * 4) := by rw [List.take_take, Nat.min_eq_left (by omega)]
  have e3 : R.flatMap ctCs = (R.take k).flatMap ctCs ++ (R.drop k).flatMap ctCs := by rw [← List.flatMap_append, List.take_append_drop]
  have e4 : ((R.take k).flatMap ctCs).length = k * 4 := by have := gcells_len (cf := ctCs) (sz := 4) (fun _ => rfl) (R.take k); rw [hl] at this; exact this
  rw [e1, e2, ht, e3, ← e4, List.take_left]
end Go.Proofs.YtdbnddmncbjobaaGreatDoor

/- slices.Compact of places: walked. -/
namespace Go.Proofs.YtdbnddmncbjobaaGreatDoor
open Go Go.RowKit
attribute [local go_sem] Oper.semAt_some

/-- Between two rounds of the outer loop. -/
def CoO (w : World) (xs : List Ct) (s3 : Value) (W : World) : Prop := ∃ k : Nat, k + 1 ≤ xs.length ∧ s3 = .int .i64 ((k + 1 : Nat) : Int) ∧ Pfx xs (k + 1) ∧ ∃ n, W = w.drewN n
/-- Between two rounds of the inner loop, which began at k0. -/
def CoN (w : World) (g N k0 : Nat) (xs : List Ct) (s3 s5 : Value) (W : World) : Prop := ∃ (m k : Nat) (R : List Ct), k0 + m + 1 ≤ xs.length ∧ s3 = .int .i64 (k : Int) ∧ s5 = .int .i64 ((m + 1 : Nat) : Int) ∧ CmI xs (k0 + m + 1) k R ∧ CRow W g N R ∧ w.grownBy W (some g)
set_option maxHeartbeats 1000000 in
theorem eqIn_ct (d : Nat) (x y : Ct) (w : World) : (Op.equalIn (d + 2 + 1) 69 (ctV x) (ctV y)).run Tryz.prog w = .ok (decide (x = y)) w := by
  obtain ⟨r, n, s, l⟩ := x
  obtain ⟨r', n', s', l'⟩ := y
  unfold ctV
  rw [Op.equalIn]
  simp [go_sem]
  by_cases h1 : r = r' <;> by_cases h2 : n = n' <;> by_cases h3 : s = s' <;> by_cases h4 : l = l' <;> simp [h1, h2, h3, h4]
theorem eql_ct (x y : Ct) (w : World) : (binOp .eql 69 (ctV x) (ctV y)).run Tryz.prog w = .ok (.bool (decide (x = y))) w := by
  have h := eqIn_ct 9997 x y w
  unfold ctV at h ⊢
  simp only [binOp]
  simp [Op.equal, Op.maxDepth, h]
theorem neq_ct (x y : Ct) (w : World) : (binOp .neq 69 (ctV x) (ctV y)).run Tryz.prog w = .ok (.bool (!decide (x = y))) w := by
  have h := eqIn_ct 9997 x y w
  unfold ctV at h ⊢
  simp only [binOp]
  simp [Op.equal, Op.maxDepth, h]
theorem eql_ne {x y : Ct} (h : x ≠ y) (W : World) : (binOp .eql 69 (.agg #[.int .i64 x.br, .int .i64 x.nu, .int .i64 x.su, .int .i64 x.li]) (.agg #[.int .i64 y.br, .int .i64 y.nu, .int .i64 y.su, .int .i64 y.li])).run Tryz.prog W = .ok (.bool false) W := by
  have := eql_ct x y W; rw [decide_eq_false h] at this; exact this
set_option maxHeartbeats 4000000 in
set_option maxRecDepth 100000 in
theorem compact_any (w : World) (g N cap : Nat) (xs : List Ct) (hr : CRow w g N xs) (hn : 2 ≤ xs.length) (hl : xs.length ≤ 100000000) (hc : xs.length ≤ cap) :
    Calls Tryz.prog 113 #[.slice (some ⟨g, 0, none⟩) xs.length cap] w fun e w' => e = .returned (.slice (some ⟨g, 0, none⟩) (dedP xs).length cap) ∧ CRow w' g N (dedP xs) ∧ (dedP xs).length ≤ xs.length ∧ w.grownBy w' (some g) := by
  have HR := Lib.hid hr
  clear hr
  obtain ⟨n, hn'⟩ : ∃ n, xs.length = n := ⟨_, rfl⟩
  rw [hn'] at hn hl hc ⊢
  go_enter Tryz.func113, Tryz.ntmps113
  go_wp2_with fail
  go_loopw [3] (fun s3 W => CoO w xs s3 W) (fun s3 _ => toM n s3)
  case atStart => exact ⟨0, by omega, rfl, Pfx.one xs, 0, rfl⟩
  case round =>
    obtain ⟨k, hk, rfl, hp, q, rfl⟩ := hrel
    have HP := Lib.hid hp
    clear hp
    rw [hn'] at hk
    by_cases hlt : k + 1 < n
    case neg =>
      obtain rfl : n = k + 1 := by omega
      have hni : ¬ (((k + 1 : Nat) : Int) < ((k + 1 : Nat) : Int)) := by omega
      go_wp2_with fail
      go_ret
      have hd : dedP xs = xs := by have := HP.out; unfold Pfx at this; rwa [← hn', List.take_length] at this
      exact ⟨by rw [hd, hn']; rfl, by rw [hd]; exact HR.out.drew, by rw [hd, hn']; exact Nat.le_refl _, ⟨rfl, rfl, rfl, Nat.le_refl _, fun _ _ _ => rfl⟩⟩
    have hI : ((k + 1 : Nat) : Int) < (n : Int) := by omega
    obtain ⟨a, ha⟩ : ∃ a, xs[k]? = some a := ⟨_, List.getElem?_eq_getElem (by omega)⟩
    obtain ⟨b, hb⟩ : ∃ b, xs[k + 1]? = some b := ⟨_, List.getElem?_eq_getElem (by omega)⟩
    obtain ⟨a0, a1, a2, a3⟩ := HR.out.at ha
    obtain ⟨b0, b1, b2, b3⟩ := HR.out.at hb
    have i1 : (k : Int) + 1 < (n : Int) := by omega
    have i2 : (0 : Int) ≤ (k : Int) + 1 := by omega
    have i3 : ((k : Int) + 1).toNat = k + 1 := by omega
    have i4 : (k : Int) < (n : Int) := by omega
    have i5 : IntKind.i64.wrap (k : Int) = (k : Int) := by simp [IntKind.wrap, IntKind.bits, IntKind.signed]; omega
    have HA := Lib.hid ha
    have HB := Lib.hid hb
    clear ha hb
    by_cases hab : b = a
    · subst hab
      have d : ∀ W, (binOp .eql 69 (.agg #[.int .i64 b.br, .int .i64 b.nu, .int .i64 b.su, .int .i64 b.li]) (.agg #[.int .i64 b.br, .int .i64 b.nu, .int .i64 b.su, .int .i64 b.li])).run Tryz.prog W = .ok (.bool true) W := fun W => by
        have := eql_ct b b W; rw [decide_eq_true rfl] at this; exact this
      have HS := Lib.hid (CmI.start HP.out HA.out HB.out)
      go_upto_region 6 with (fail)
      go_quiet (fail)
      clear a0 a1 a2 a3 b0 b1 b2 b3 d
      go_wp2_with fail
      go_loopw [3, 5] (fun s3 s5 W => CoN w g N (k + 1) xs s3 s5 W) (fun _ s5 _ => toM (n - (k + 1)) s5)
      case atStart => exact ⟨0, k + 1, xs, by omega, by go_num, rfl, HS.out, HR.out.drew, ⟨rfl, rfl, rfl, Nat.le_refl _, fun _ _ _ => rfl⟩⟩
      case round =>
        obtain ⟨m, kk, R, hm, rfl, rfl, hI, hW, hG⟩ := hrel
        obtain ⟨n1, e1⟩ : ∃ n1, n - (k + 1) = n1 := ⟨_, rfl⟩
        obtain ⟨c1, e2⟩ : ∃ c1, cap - (k + 1) = c1 := ⟨_, rfl⟩
        rw [e1, e2]
        rw [hn'] at hm
        have hRl : R.length = n := by rw [hI.len, hn']
        have hkk := hI.lt
        have HI := Lib.hid hI
        have HW := Lib.hid hW
        have HG := Lib.hid hG
        have HRL := Lib.hid hRl
        have HGD := Lib.hid (fun q => (show w.grownBy (wr.drewN q) (some g) from ⟨HG.out.os, HG.out.tape, HG.out.output, HG.out.size, HG.out.block⟩))
        clear hI hW hG hRl
        by_cases hlt : m + 1 < n1
        case neg =>
          have hJ : ¬ ((m + 1 : Nat) : Int) < (n1 : Int) := by omega
          have j1 : ¬ (m : Int) + 1 < (n1 : Int) := by omega
          have hfin := HI.out.fin (by omega)
          have hk2 : kk < n := by omega
          have hdl : (dedP xs).length = kk := by rw [← hfin, List.length_take]; have := HRL.out; omega
          have HD := Lib.hid hdl
          have HFI := Lib.hid hfin
          have hcl : ∀ ty, (Builtin.clear_ #[38] ty #[.slice (some ⟨g, kk * 4, none⟩) (n - kk) (cap - kk)]).run Tryz.prog wr = .ok (.tuple #[]) (wr.setCells g (kk * 4) (Builtin.zeroCells (Value.agg #[.int .i64 0, .int .i64 0, .int .i64 0, .int .i64 0]).cells (n - kk)).toList) := fun ty =>
            run_clear_many wr 38 69 ty _ Tryz.underlying38 Tryz.zeroValue69 (by intro u hu; simp [Value.cells] at hu; rw [hu]; rfl) g (kk * 4) (n - kk) (cap - kk) (by omega) (fun j hj => by
              have hj4 : j < (n - kk) * 4 := hj
              have hjn : kk + j / 4 < R.length := by have := HRL.out; omega
              obtain ⟨c0, c1, c2, c3⟩ := HW.out.at (List.getElem?_eq_getElem hjn)
              have hm4 : j % 4 = 0 ∨ j % 4 = 1 ∨ j % 4 = 2 ∨ j % 4 = 3 := by omega
              rcases hm4 with h9 | h9 | h9 | h9
              · rw [show kk * 4 + j = (kk + j / 4) * 4 by omega, c0]; rfl
              · rw [show kk * 4 + j = (kk + j / 4) * 4 + 1 by omega, c1]; rfl
              · rw [show kk * 4 + j = (kk + j / 4) * 4 + 2 by omega, c2]; rfl
              · rw [show kk * 4 + j = (kk + j / 4) * 4 + 3 by omega, c3]; rfl) (fun j => HW.out.frozen j)
          generalize (Builtin.zeroCells (Value.agg #[.int .i64 0, .int .i64 0, .int .i64 0, .int .i64 0]).cells (n - kk)).toList = vs at hcl
          have HC := Lib.hid (HW.out.cut (k := kk) (by have := HRL.out; omega) vs)
          have t1 : (kk : Int) ≤ (n : Int) := by omega
          have t2 : (kk : Int) ≤ (cap : Int) := by omega
          clear hfin hdl
          go_wp2_with fail
          go_ret
          refine ⟨by rw [HD.out]; rfl, ?_, by rw [HD.out]; omega, HG.out.andThen HC.out.2 (fun _ hj => .inr hj)⟩
          have := HC.out.1
          rwa [HFI.out] at this
        have hJ : ((m + 1 : Nat) : Int) < (n1 : Int) := by omega
        have j1 : (m : Int) + 1 < (n1 : Int) := by omega
        have j2 : (0 : Int) ≤ (m : Int) + 1 := by omega
        have j3 : ((m : Int) + 1).toNat = m + 1 := by omega
        have j4 : (m : Int) < (n1 : Int) := by omega
        have j5 : IntKind.i64.wrap (m : Int) = (m : Int) := by simp [IntKind.wrap, IntKind.bits, IntKind.signed]; omega
        obtain ⟨x, hx⟩ : ∃ x, xs[k + 1 + m]? = some x := ⟨_, List.getElem?_eq_getElem (by omega)⟩
        obtain ⟨y, hy⟩ : ∃ y, xs[k + 1 + m + 1]? = some y := ⟨_, List.getElem?_eq_getElem (by omega)⟩
        obtain ⟨a0, a1, a2, a3⟩ := HW.out.at ((HI.out.rest (k + 1 + m) (by omega)).trans hx)
        obtain ⟨b0, b1, b2, b3⟩ := HW.out.at ((HI.out.rest (k + 1 + m + 1) (by omega)).trans hy)
        rw [show (k + 1 + m) * 4 = (k + 1) * 4 + m * 4 by omega] at a0 a1 a2 a3
        rw [show (k + 1 + m + 1) * 4 = (k + 1) * 4 + (m + 1) * 4 by omega] at b0 b1 b2 b3
        have HX := Lib.hid hx
        have HY := Lib.hid hy
        clear hx hy
        by_cases hxy : y = x
        · subst hxy
          have d : ∀ W, (binOp .neq 69 (.agg #[.int .i64 y.br, .int .i64 y.nu, .int .i64 y.su, .int .i64 y.li]) (.agg #[.int .i64 y.br, .int .i64 y.nu, .int .i64 y.su, .int .i64 y.li])).run Tryz.prog W = .ok (.bool false) W := fun W => by
            have := neq_ct y y W; rw [decide_eq_true rfl] at this; exact this
          go_upto_region 11 with (fail)
          go_quiet (fail)
          go_wp2_with fail
          go_roundw
          case rel => exact ⟨m + 1, kk, R, by omega, rfl, by go_num, HI.out.same HX.out HY.out, HW.out.drew, ⟨HG.out.os, HG.out.tape, HG.out.output, HG.out.size, HG.out.block⟩⟩
          case measure => simp only [toM]; omega
        · have d : ∀ W, (binOp .neq 69 (.agg #[.int .i64 y.br, .int .i64 y.nu, .int .i64 y.su, .int .i64 y.li]) (.agg #[.int .i64 x.br, .int .i64 x.nu, .int .i64 x.su, .int .i64 x.li])).run Tryz.prog W = .ok (.bool true) W := fun W => by
            have := neq_ct y x W; rw [decide_eq_false hxy] at this; exact this
          have hk2 : kk < R.length := by have := HRL.out; omega
          obtain ⟨r, hr⟩ : ∃ r, R[kk]? = some r := ⟨_, List.getElem?_eq_getElem hk2⟩
          obtain ⟨r0, r1, r2, r3⟩ := HW.out.at hr
          have f0 := HW.out.frozen (kk * 4)
          have f1 := HW.out.frozen (kk * 4 + 1)
          have f2 := HW.out.frozen (kk * 4 + 2)
          have f3 := HW.out.frozen (kk * 4 + 3)
          have t1 : (kk : Int) < (n : Int) := by have := HRL.out; omega
          have HN := Lib.hid (HI.out.new HX.out HY.out (Ne.symm hxy))
          have HST := Lib.hid (fun q => (CRow.set (HW.out.drew (n := q)) y hk2))
          clear hxy hr
          go_upto_region 11 with (fail)
          go_quiet (fail)
          go_wp2_with fail
          go_roundw
          case rel => exact ⟨m + 1, kk + 1, R.set kk y, by omega, by go_num, by go_num, HN.out, (HST.out _).1, (HGD.out _).andThen (HST.out _).2 (fun _ hj => .inr hj)⟩
          case measure => simp only [toM]; omega
    · have d := eql_ne hab
      have HN := Lib.hid (HP.out.next HA.out HB.out (Ne.symm hab))
      clear hab
      go_upto_region 6 with (fail)
      go_quiet (fail)
      trace_state
      go_wp2_with fail
      go_roundw
      case rel => exact ⟨k + 1, by omega, by go_num, HN.out, _, rfl⟩
      case measure => simp only [toM]; omega
theorem compact_one (w : World) (A : Option Addr) (c : Nat) : Calls Tryz.prog 113 #[.slice A 1 c] w fun e w' => e = .returned (.slice A 1 c) ∧ w = w' := by
  go_enter Tryz.func113, Tryz.ntmps113
  go_wp2_with fail
  go_ret
  exact ⟨rfl, rfl⟩
/-- slices.Compact at a row of the call's own. -/
theorem compact_own (w : World) (B : Nat) (v : Value) (xs : List Ct) (h : kCt.own 69 w B (fun _ => False) v xs) (hne : xs ≠ []) (hl : xs.length ≤ 100000000) :
    Calls Tryz.prog 113 #[v] w fun e w' => ∃ v', e = .returned v' ∧ v'.ownBlock = v.ownBlock ∧ kCt.own 69 w' B (fun _ => False) v' (dedP xs) ∧ w.grownBy w' v.ownBlock := by
  have hc := ct_cells h
  rcases hc.2 with ⟨_, h0⟩ | ⟨g, cap, cur, rfl, hbase, hb, h1, h2, h3, h4⟩
  · exact absurd (List.length_eq_zero_iff.1 h0) hne
  by_cases hn : 2 ≤ xs.length
  · refine (compact_any w g (cap * 4) cap xs ⟨cur, hb, h4, by omega, h3⟩ hn hl h1).mono ?_
    rintro e w' ⟨rfl, ⟨cur', hb', ht', hs', hz'⟩, hle, hg⟩
    refine ⟨_, rfl, rfl, cells_ct ⟨gcells_len (cf := ctCs) (sz := 4) (fun _ => rfl) _, .inr ⟨g, cap, cur', rfl, hbase, hb', by omega, h2, hz', ht'⟩⟩, hg⟩
  · have e1 : xs.length = 1 := by have := List.length_pos_iff.2 hne; omega
    obtain ⟨x, rfl⟩ : ∃ x, xs = [x] := List.length_eq_one_iff.1 e1
    refine (compact_one w (some ⟨g, 0, none⟩) cap).mono ?_
    rintro e w' ⟨rfl, rfl⟩
    exact ⟨_, rfl, rfl, h, ⟨rfl, rfl, rfl, Nat.le_refl _, fun _ _ _ => rfl⟩⟩
end Go.Proofs.YtdbnddmncbjobaaGreatDoor

/- The reference's SameCites: walked. -/
namespace Go.Proofs.YtdbnddmncbjobaaGreatDoor
open Go Go.RowKit
attribute [local go_sem] Oper.semAt_some

theorem ct_at {W : World} {P : Nat → Prop} {A : Option Addr} {n : Nat} {xs : List Ct} (h : kCt.row W P A n xs) {i : Nat} {x : Ct} (hi : xs[i]? = some x) :
    ∃ b off, A = some ⟨b, off, none⟩ ∧ b < W.heap.size ∧ P b ∧ W.cell? ⟨b, off + i * 4, none⟩ = some (.int .i64 x.br) ∧ W.cell? ⟨b, off + i * 4 + 1, none⟩ = some (.int .i64 x.nu) ∧ W.cell? ⟨b, off + i * 4 + 2, none⟩ = some (.int .i64 x.su) ∧ W.cell? ⟨b, off + i * 4 + 3, none⟩ = some (.int .i64 x.li) := by
  obtain ⟨b, off, cs, rfl, hb, hP, hrep, hc⟩ := Lay.row_at h hi
  rw [kCt_rep.1 hrep] at hc
  exact ⟨b, off, rfl, hb, hP, hc 0 _ rfl, hc 1 _ rfl, hc 2 _ rfl, hc 3 _ rfl⟩
theorem take_eq {α : Type} {xs ys : List α} {i : Nat} {x y : α} (h : xs.take i = ys.take i) (hx : xs[i]? = some x) (hy : ys[i]? = some y) (e : x = y) : xs.take (i + 1) = ys.take (i + 1) := by
  rw [List.take_add_one, List.take_add_one, h, hx, hy, e]
def SaR (w : World) (n : Nat) (xs ys : List Ct) (s5 : Value) (W : World) : Prop := ∃ i : Nat, i ≤ n ∧ s5 = .int .i64 i ∧ xs.take i = ys.take i ∧ ∃ q, W = w.drewN q
set_option maxHeartbeats 4000000 in
set_option maxRecDepth 100000 in
theorem samec_any (P Q : Nat → Prop) (w : World) (xs ys : List Ct) (A A' : Option Addr) (n n' c c' : Nat) (h : kCt.row w P A n xs) (h' : kCt.row w Q A' n' ys) (hn : n ≤ 100000000) (hn' : n' ≤ 100000000) :
    Calls Tryz.prog 27 #[.slice A n c, .slice A' n' c'] w fun e w' => e = .returned (.bool (decide (xs = ys))) ∧ ∃ q, w' = w.drewN q := by
  have HL := Lib.hid (Lay.row_len h)
  have HL' := Lib.hid (Lay.row_len h')
  have HR := Lib.hid h
  have HR' := Lib.hid h'
  obtain ⟨r, hr⟩ : ∃ r, decide (xs = ys) = r := ⟨_, rfl⟩
  rw [hr]
  have HV := Lib.hid hr
  clear h h' hr
  by_cases hne : n = n'
  case neg =>
    have d : ((n : Int) != (n' : Int)) = true := by simp; omega
    have hF : r = false := by rw [← HV.out]; exact decide_eq_false fun e => hne (by rw [HL.out, HL'.out, e])
    subst hF
    go_enter Tryz.func27, Tryz.ntmps27
    go_wp2_with fail
    go_ret
    exact ⟨rfl, 0, rfl⟩
  subst hne
  go_enter Tryz.func27, Tryz.ntmps27
  go_wp2_with fail
  go_loopw [5] (fun s5 W => SaR w n xs ys s5 W) (fun s5 _ => toM n s5)
  case atStart => exact ⟨0, by omega, rfl, rfl, 0, rfl⟩
  case round =>
    obtain ⟨i, hi, rfl, hp, q, rfl⟩ := hrel
    have HP := Lib.hid hp
    clear hp
    by_cases hlt : i < n
    case neg =>
      obtain rfl : i = n := by omega
      have hni : ¬ ((i : Int) < (i : Int)) := by omega
      have hF : r = true := by
        rw [← HV.out]
        have := HP.out
        rw [HL.out, List.take_length] at this
        rw [← HL.out, HL'.out, List.take_length] at this
        exact decide_eq_true this
      subst hF
      go_wp2_with fail
      go_ret
      exact ⟨rfl, q, rfl⟩
    have hI : (i : Int) < (n : Int) := by omega
    obtain ⟨x, hx⟩ : ∃ x, xs[i]? = some x := ⟨_, List.getElem?_eq_getElem (by have := HL.out; omega)⟩
    obtain ⟨y, hy⟩ : ∃ y, ys[i]? = some y := ⟨_, List.getElem?_eq_getElem (by have := HL'.out; omega)⟩
    obtain ⟨b, off, rfl, _, _, a0, a1, a2, a3⟩ := ct_at HR.out hx
    obtain ⟨b', off', rfl, _, _, b0, b1, b2, b3⟩ := ct_at HR'.out hy
    have HX := Lib.hid hx
    have HY := Lib.hid hy
    clear hx hy
    by_cases hxy : x = y
    · subst hxy
      have d : ∀ W, (binOp .neq 69 (.agg #[.int .i64 x.br, .int .i64 x.nu, .int .i64 x.su, .int .i64 x.li]) (.agg #[.int .i64 x.br, .int .i64 x.nu, .int .i64 x.su, .int .i64 x.li])).run Tryz.prog W = .ok (.bool false) W := fun W => by
        have := neq_ct x x W; rw [decide_eq_true rfl] at this; exact this
      go_upto_region 6 with (fail)
      go_quiet (fail)
      go_wp2_with fail
      go_roundw
      case rel => exact ⟨i + 1, by omega, by go_num, take_eq HP.out HX.out HY.out rfl, _, rfl⟩
      case measure => simp only [toM]; omega
    · have d : ∀ W, (binOp .neq 69 (.agg #[.int .i64 x.br, .int .i64 x.nu, .int .i64 x.su, .int .i64 x.li]) (.agg #[.int .i64 y.br, .int .i64 y.nu, .int .i64 y.su, .int .i64 y.li])).run Tryz.prog W = .ok (.bool true) W := fun W => by
        have := neq_ct x y W; rw [decide_eq_false hxy] at this; exact this
      have hF : r = false := by
        rw [← HV.out]
        exact decide_eq_false fun e => hxy (by have h9 := HX.out; rw [e, HY.out] at h9; injection h9 with h9; exact h9.symm)
      subst hF
      clear hxy
      go_upto_region 6 with (fail)
      go_quiet (fail)
      go_wp2_with fail
      go_ret
      exact ⟨rfl, q + nq, by simp [World.drewN, Nat.add_assoc]⟩
end Go.Proofs.YtdbnddmncbjobaaGreatDoor

/- The reference's place: walked. -/
namespace Go.Proofs.YtdbnddmncbjobaaGreatDoor
open Go Go.RowKit
attribute [local go_sem] Oper.semAt_some

theorem info69 : (Tryz.prog.info? 69).map (fun i => (i.zero, i.size, i.bytes)) = some (some (Value.agg #[.int .i64 0, .int .i64 0, .int .i64 0, .int .i64 0]), 4, 32) := by kernel_rfl
theorem place_skip : ∀ {l : List Ct} {x : Ct} (k : Nat), (∀ y ∈ l.take k, CLt y x) → placeP l x = l.take k ++ placeP (l.drop k) x
  | _, _, 0, _ => rfl
  | [], _, _ + 1, _ => rfl
  | y :: r, x, k + 1, h => by
    have h1 : CLt y x := h y (by simp)
    have ih := place_skip (l := r) (x := x) k fun z hz => h z (by simp [hz])
    simp only [placeP, if_pos h1, List.take_succ_cons, List.drop_succ_cons, List.cons_append, ih]
theorem place_here {l : List Ct} {x y : Ct} {k : Nat} (h : ∀ y ∈ l.take k, CLt y x) (hy : l[k]? = some y) (hn : ¬ CLt y x) : placeP l x = if y = x then l else l.take k ++ [x] ++ l.drop k := by
  rw [place_skip k h]
  obtain ⟨hk, rfl⟩ := List.getElem?_eq_some_iff.1 hy
  have e : l.drop k = l[k] :: l.drop (k + 1) := List.drop_eq_getElem_cons hk
  rw [e]
  simp only [placeP, if_neg hn]
  split
  · rw [← e, List.take_append_drop]
  · simp
theorem place_end {l : List Ct} {x : Ct} (h : ∀ y ∈ l, CLt y x) : placeP l x = l ++ [x] := by
  have := place_skip (l := l) (x := x) l.length (by rw [List.take_length]; exact h)
  rw [List.take_length, List.drop_length] at this
  exact this
/-- A row of the call's own, as a row. -/
theorem own_rowQ {β : Type} {k : Lay β} {e : TypeId} {W : World} {base : Nat} {P : Nat → Prop} {A : Option Addr} {n c : Nat} {xs : List β} (h : k.own e W base P (.slice A n c) xs) : n ≤ c ∧ k.row W (fun j => P j ∨ base ≤ j) A n xs := by
  obtain ⟨A', c', e1, h1, h2⟩ := Lay.own_row h
  have hlt := Lay.own_lt h
  obtain ⟨rfl, rfl, rfl⟩ := Value.slice.inj e1
  exact ⟨h1, Lay.row_mono h2 fun j hj _ => hj.imp id fun hj => (hlt j hj).1⟩
theorem row_A {β : Type} {k : Lay β} {W : World} {P : Nat → Prop} {A : Option Addr} {n : Nat} {xs : List β} (h : k.row W P A n xs) (e : A = none) : n = 0 := by
  subst e
  obtain ⟨ds, h1, h2, h3, _⟩ := h
  rcases Nat.eq_zero_or_pos n with h | h
  · exact h
  · obtain ⟨b, off, e, _⟩ := h3.2 h; cases e
/-- The first elements of a row. -/
theorem hi38 (A : Option Addr) (n c k : Nat) (hk : k ≤ n) (hn : n ≤ c) (hA : A = none → n = 0) (W : World) : (Instr.sliceAt 38 (.slice A n c) none (some (.int .i64 (k : Int))) none).run Tryz.prog W = .ok (.slice A k c) W := by
  have h1 : (k : Int) ≤ (c : Int) := by omega
  cases A with
  | none =>
    obtain rfl := hA rfl
    obtain rfl : k = 0 := by omega
    by_cases hc : c = 0
    · subst hc; go_simp
    · go_simp
  | some a =>
    by_cases hc : c = 0
    · subst hc
      obtain rfl : k = 0 := by omega
      go_simp
    · go_simp
theorem hi33 (A : Option Addr) (n c k : Nat) (hk : k ≤ n) (hn : n ≤ c) (hA : A = none → n = 0) (W : World) : (Instr.sliceAt 33 (.slice A n c) none (some (.int .i64 (k : Int))) none).run Tryz.prog W = .ok (.slice A k c) W := by
  have h1 : (k : Int) ≤ (c : Int) := by omega
  cases A with
  | none =>
    obtain rfl := hA rfl
    obtain rfl : k = 0 := by omega
    by_cases hc : c = 0
    · subst hc; go_simp
    · go_simp
  | some a =>
    by_cases hc : c = 0
    · subst hc
      obtain rfl : k = 0 := by omega
      go_simp
    · go_simp
/-- The last elements of a row. -/
theorem lo38 (A : Option Addr) (n c l : Nat) (hl : l ≤ n) (hn : n ≤ c) (hA : A = none → n = 0) (W : World) : (Instr.sliceAt 38 (.slice A n c) (some (.int .i64 (l : Int))) none none).run Tryz.prog W = .ok (.slice (A.map fun a => if c = l then a else a.add (l * 4)) (n - l) (c - l)) W := by
  have h1 : (l : Int) ≤ (n : Int) := by omega
  have h2 : (l : Int) ≤ (c : Int) := by omega
  cases A with
  | none =>
    obtain rfl := hA rfl
    obtain rfl : l = 0 := by omega
    by_cases hc : c = 0
    · subst hc; go_simp
    · go_simp
  | some a =>
    by_cases h : c = l
    · subst h
      have : n = c := by omega
      subst this
      go_simp
    · have h3 : ¬ l = c := fun e => h e.symm
      simp only [Option.map_some, if_neg h]
      go_simp
theorem lo33 (A : Option Addr) (n c l : Nat) (hl : l ≤ n) (hn : n ≤ c) (hA : A = none → n = 0) (W : World) : (Instr.sliceAt 33 (.slice A n c) (some (.int .i64 (l : Int))) none none).run Tryz.prog W = .ok (.slice (A.map fun a => if c = l then a else a.add (l * 2)) (n - l) (c - l)) W := by
  have h1 : (l : Int) ≤ (n : Int) := by omega
  have h2 : (l : Int) ≤ (c : Int) := by omega
  cases A with
  | none =>
    obtain rfl := hA rfl
    obtain rfl : l = 0 := by omega
    by_cases hc : c = 0
    · subst hc; go_simp
    · go_simp
  | some a =>
    by_cases h : c = l
    · subst h
      have : n = c := by omega
      subst this
      go_simp
    · have h3 : ¬ l = c := fun e => h e.symm
      simp only [Option.map_some, if_neg h]
      go_simp
theorem row_lo {β : Type} {k : Lay β} {W : World} {P : Nat → Prop} {A : Option Addr} {n c : Nat} {xs : List β} (h : k.row W P A n xs) (l : Nat) (hl : l ≤ n) (hc : n ≤ c) : k.row W P (A.map fun a => if c = l then a else a.add (l * k.sz)) (n - l) (xs.drop l) := by
  have hlen := Lay.row_len h
  by_cases h0 : n - l = 0
  · rw [h0, List.drop_of_length_le (by omega)]
    obtain ⟨ds, _, _, _, h4, _⟩ := h
    refine ⟨[], rfl, rfl, ⟨rfl, fun h => absurd h (Nat.lt_irrefl _)⟩, fun x hx => ?_, fun i d x hd => by simp at hd⟩
    cases A with
    | none => cases hx
    | some a =>
      simp only [Option.map_some, Option.some.injEq] at hx
      subst hx
      have := h4 a rfl
      split
      · exact this
      · unfold Addr.add
        split <;> exact this
  · obtain ⟨x, hx⟩ : ∃ x, xs[0]? = some x := ⟨_, List.getElem?_eq_getElem (by omega)⟩
    obtain ⟨b, off, cs, rfl, _⟩ := Lay.row_at h hx
    simp only [Option.map_some, if_neg (show ¬ c = l by omega)]
    have := Lay.row_drop h l
    unfold Addr.add
    by_cases h9 : l * k.sz = 0
    · simpa [h9] using this
    · simpa [h9] using this
theorem pl_runs (P : Nat → Prop) (w1 X : World) (l : List Ct) (x : Ct) (A : Option Addr) (n c k : Nat) (hr : kCt.row w1 P A n l) (hX : Ext w1 X) (hk : k ≤ n) (hc : n ≤ c) (hn : n ≤ 40000000) :
    ∃ A1 c1 w2, (Builtin.append_ #[38, 38] 38 #[.slice none 0 0, .slice A k c]).run Tryz.prog X = .ok (.slice A1 k c1) w2 ∧ Ext w1 w2 ∧
    ∃ A2 c2 w3, (Builtin.append_ #[38, 38] 38 #[.slice A1 k c1, .slice (some ⟨w2.heap.size, 0, none⟩) 1 1]).run Tryz.prog (w2.alloc (.cells #[.int .i64 x.br, .int .i64 x.nu, .int .i64 x.su, .int .i64 x.li] 69)) = .ok (.slice A2 (k + 1) c2) w3 ∧
    ∃ A3 c3 w4, (Builtin.append_ #[38, 38] 38 #[.slice A2 (k + 1) c2, .slice (A.map fun a => if c = k then a else a.add (k * 4)) (n - k) (c - k)]).run Tryz.prog w3 = .ok (.slice A3 (k + 1 + (n - k)) c3) w4 ∧ k + 1 + (n - k) ≤ c3 ∧
      kCt.row w4 (fun j => P j ∨ w1.heap.size ≤ j) A3 (k + 1 + (n - k)) (l.take k ++ [x] ++ l.drop k) ∧ Ext w1 w4 := by
  have hlen := Lay.row_len hr
  have ht : (l.take k).length = k := by rw [List.length_take]; omega
  obtain ⟨A1, c1, w2, r1, o1, x1⟩ := own_app (k := kCt) (Pr := Tryz.prog) (t := 38) (e := 69) Tryz.underlying38 info69 rfl (by decide) (by omega) (Lay.own_nil kCt 69 X w1.heap.size P) hX (Lay.row_take hr k hk) c (by simp; omega)
  simp only [List.length_nil, Nat.zero_add, List.nil_append] at r1 o1
  obtain ⟨A2, c2, w3, r2, o2, b2, _⟩ := own_app1 (k := kCt) (Pr := Tryz.prog) (t := 38) (e := 69) Tryz.underlying38 info69 rfl (by decide) (by omega) o1 x1.lt (cs := #[.int .i64 x.br, .int .i64 x.nu, .int .i64 x.su, .int .i64 x.li]) (T := 69) (x := x) (kCt_rep.2 rfl) 1 (by omega)
  rw [ht] at r2 o2
  have x2 : Ext w1 w3 := Below.trans x1 (b2 _ (Nat.le_refl _))
  obtain ⟨A3, c3, w4, r3, o3, x3⟩ := own_app (k := kCt) (Pr := Tryz.prog) (t := 38) (e := 69) Tryz.underlying38 info69 rfl (by decide) (by omega) o2 x2 (row_lo hr k hk hc) (c - k) (by simp; omega)
  have e3 : (l.take k ++ [x]).length = k + 1 := by simp [ht]
  rw [e3] at r3 o3
  obtain ⟨h9, h8⟩ := own_rowQ o3
  exact ⟨A1, c1, w2, r1, x1, A2, c2, w3, r2, A3, c3, w4, r3, h9, h8, x3⟩
def PlR (w1 : World) (l : List Ct) (x : Ct) (s5 : Value) (W : World) : Prop := ∃ k : Nat, k ≤ l.length ∧ s5 = .int .i64 k ∧ (∀ y ∈ l.take k, CLt y x) ∧ Ext w1 W
set_option maxHeartbeats 4000000 in
set_option maxRecDepth 100000 in
theorem placec_any (P : Nat → Prop) (w : World) (l : List Ct) (x : Ct) (A : Option Addr) (n c : Nat) (h : kCt.row w P A n l) (hc : n ≤ c) (hn : n ≤ 40000000) :
    Calls Tryz.prog 120 #[.slice A n c, ctV x] w fun e w' => ∃ A' n' c', e = .returned (.slice A' n' c') ∧ n' ≤ c' ∧ kCt.row w' (fun j => P j ∨ w.heap.size ≤ j) A' n' (placeP l x) ∧ Ext w w' := by
  have HL := Lib.hid (Lay.row_len h)
  have HA := Lib.hid (fun e => row_A h e)
  have HBF := Lib.hid (fun (W : World) (y : Ct) => (show Calls Tryz.prog 71 #[.agg #[.int .i64 y.br, .int .i64 y.nu, .int .i64 y.su, .int .i64 y.li], .agg #[.int .i64 x.br, .int .i64 x.nu, .int .i64 x.su, .int .i64 x.li]] W fun e w' => e = .returned (.bool (decide (CLt y x))) ∧ Ext W w' from rbefore_any y x W))
  unfold ctV
  obtain ⟨z, hz⟩ : ∃ z, w.heap.size = z := ⟨_, rfl⟩
  obtain ⟨w1, hw1⟩ : ∃ w1, w.alloc (.cells #[.int .i64 x.br, .int .i64 x.nu, .int .i64 x.su, .int .i64 x.li] 69) = w1 := ⟨_, rfl⟩
  have hx1 : Ext w w1 := by rw [← hw1]; exact (Ext.refl w).alloc _
  have hB : w1.heap[z]? = some (.cells #[.int .i64 x.br, .int .i64 x.nu, .int .i64 x.su, .int .i64 x.li] 69 (0, 0)) := by rw [← hw1, ← hz]; exact heap_alloc_new _ _
  have hzl := lt_of_block hB
  have HQ := Lib.hid (fun X (hX : Ext w1 X) => (show X.cell? ⟨z, 0, none⟩ = some (.int .i64 x.br) ∧ X.cell? ⟨z, 1, none⟩ = some (.int .i64 x.nu) ∧ X.cell? ⟨z, 2, none⟩ = some (.int .i64 x.su) ∧ X.cell? ⟨z, 3, none⟩ = some (.int .i64 x.li) from
    have h9 := (hX.block _ hzl).trans hB
    ⟨cell_of h9 (i := 0) rfl, cell_of h9 (i := 1) rfl, cell_of h9 (i := 2) rfl, cell_of h9 (i := 3) rfl⟩))
  have HR1 := Lib.hid (Lay.row_ext h hx1)
  have HR := Lib.hid (fun X (hX : Ext w1 X) => Lay.row_ext (Lay.row_ext h hx1) hX)
  have HX1 := Lib.hid hx1
  have HZ := Lib.hid (show w.heap.size ≤ w1.heap.size from hx1.lt)
  have HRW := Lib.hid h
  clear h hx1 hB hzl
  go_enter Tryz.func120, Tryz.ntmps120
  go_upto_region 1 with (fail)
  clear hw1 hz
  go_wp2_with fail
  go_loopw [5] (fun s5 W => PlR w1 l x s5 W) (fun s5 _ => toM n s5)
  case atStart => exact ⟨0, by omega, rfl, by simp, Ext.refl _⟩
  case round =>
    obtain ⟨k, hk, rfl, hp, hxr⟩ := hrel
    rw [← HL.out] at hk
    have HP := Lib.hid hp
    have HX := Lib.hid hxr
    clear hp hxr
    obtain ⟨T, hT⟩ : ∃ T : Bool, (match l[k]? with | some y => decide (CLt y x) | none => false) = T := ⟨_, rfl⟩
    have HT := Lib.hid hT
    clear hT
    go_upto_region 2 with (fail)
    go_cut [18] (fun s18 wx => s18 = .bool T ∧ Ext w1 wx)
    case first =>
      by_cases hkn : k < n
      case neg =>
        have hkn' : ¬ ((k : Int) < (n : Int)) := by omega
        have hknb : decide ((k : Int) < (n : Int)) = false := decide_eq_false hkn'
        have hTf : T = false := by rw [← HT.out, List.getElem?_eq_none (by have := HL.out; omega)]
        subst hTf
        go_quiet (fail)
        go_wp2
        go_meet
        case rel => exact ⟨rfl, HX.out.drewN _⟩
      have hkI : (k : Int) < (n : Int) := by omega
      obtain ⟨y, hy⟩ : ∃ y, l[k]? = some y := ⟨_, List.getElem?_eq_getElem (by have := HL.out; omega)⟩
      obtain ⟨b, off, rfl, hb, _, a0, a1, a2, a3⟩ := ct_at (HR.out _ HX.out) hy
      have hTe : decide (CLt y x) = T := by have := HT.out; rw [hy] at this; exact this
      have HBY := Lib.hid (fun W => HBF.out W y)
      rw [hTe] at HBY
      have HQ2 := Lib.hid (fun X (hX : Ext wr X) => (show (X.cell? ⟨z, 0, none⟩ = some (.int .i64 x.br) ∧ X.cell? ⟨z, 1, none⟩ = some (.int .i64 x.nu) ∧ X.cell? ⟨z, 2, none⟩ = some (.int .i64 x.su) ∧ X.cell? ⟨z, 3, none⟩ = some (.int .i64 x.li)) ∧
          X.cell? ⟨b, off + k * 4, none⟩ = some (.int .i64 y.br) ∧ X.cell? ⟨b, off + k * 4 + 1, none⟩ = some (.int .i64 y.nu) ∧ X.cell? ⟨b, off + k * 4 + 2, none⟩ = some (.int .i64 y.su) ∧ X.cell? ⟨b, off + k * 4 + 3, none⟩ = some (.int .i64 y.li) from
        ⟨HQ.out X (HX.out.trans hX), (hX.cells.1 b _ hb).trans a0, (hX.cells.1 b _ hb).trans a1, (hX.cells.1 b _ hb).trans a2, (hX.cells.1 b _ hb).trans a3⟩))
      clear a0 a1 a2 a3 hy hTe
      have hcur : Ext wr wr.drew := (Ext.refl _).drew
      go_region_held3 (fun X => (X.cell? ⟨z, 0, none⟩ = some (.int .i64 x.br) ∧ X.cell? ⟨z, 1, none⟩ = some (.int .i64 x.nu) ∧ X.cell? ⟨z, 2, none⟩ = some (.int .i64 x.su) ∧ X.cell? ⟨z, 3, none⟩ = some (.int .i64 x.li)) ∧
          X.cell? ⟨b, off + k * 4, none⟩ = some (.int .i64 y.br) ∧ X.cell? ⟨b, off + k * 4 + 1, none⟩ = some (.int .i64 y.nu) ∧ X.cell? ⟨b, off + k * 4 + 2, none⟩ = some (.int .i64 y.su) ∧ X.cell? ⟨b, off + k * 4 + 3, none⟩ = some (.int .i64 y.li))
        (exact HQ2.out _ hcur) (first | (go_at_call 71; refine (HBY.out _).mono ?_; rintro e w9 ⟨rfl, hx9⟩; have hcur := hcur.trans hx9))
      all_goals
        go_wp2
        go_meet
        case rel => exact ⟨rfl, HX.out.trans hcur⟩
    case rest =>
      obtain ⟨rfl, hxc⟩ := hcut
      have HXC := Lib.hid hxc
      clear hxc HX
      cases T with
      | true =>
        have hkn : k < n := by
          rcases Nat.lt_or_ge k n with h9 | h9
          · exact h9
          · have := HT.out; rw [List.getElem?_eq_none (by have := HL.out; omega)] at this; cases this
        have HNX := Lib.hid (show ∀ y ∈ l.take (k + 1), CLt y x from by
          obtain ⟨y, hy⟩ : ∃ y, l[k]? = some y := ⟨_, List.getElem?_eq_getElem (by have := HL.out; omega)⟩
          have h9 := HT.out
          rw [hy] at h9
          intro y' hy'
          rw [List.take_add_one, hy] at hy'
          rcases List.mem_append.1 hy' with h8 | h8
          · exact HP.out y' h8
          · simp only [Option.toList_some, List.mem_singleton] at h8
            subst h8; simpa using h9)
        go_wp2_with fail
        go_roundw
        case rel => exact ⟨k + 1, by have := HL.out; omega, by go_num, HNX.out, HXC.out⟩
        case measure => simp only [toM]; omega
      | false =>
        have HFN := Lib.hid (fun X (hX : Ext w1 X) => pl_runs P w1 X l x A n c k HR1.out hX hk hc hn)
        have hs1 := fun W => hi38 A n c k hk hc HA.out W
        have hs2 := fun W => lo38 A n c k hk hc HA.out W
        generalize (A.map fun a => if c = k then a else a.add (k * 4)) = B at HFN hs2
        generalize c - k = ck at HFN hs2
        generalize n - k = nk at HFN hs2
        by_cases hkn : k < n
        · obtain ⟨y, hy⟩ : ∃ y, l[k]? = some y := ⟨_, List.getElem?_eq_getElem (by have := HL.out; omega)⟩
          have hny : ¬ CLt y x := by have := HT.out; rw [hy] at this; simpa using this
          have HPL := Lib.hid (place_here HP.out hy hny)
          obtain ⟨b, off, rfl, hb, _, a0, a1, a2, a3⟩ := ct_at (HR.out _ HXC.out) hy
          obtain ⟨q0, q1, q2, q3⟩ := HQ.out _ HXC.out
          have hkI : (k : Int) < (n : Int) := by omega
          clear hy hny
          by_cases hyx : y = x
          · have d : ∀ W, (binOp .eql 69 (.agg #[.int .i64 y.br, .int .i64 y.nu, .int .i64 y.su, .int .i64 y.li]) (.agg #[.int .i64 x.br, .int .i64 x.nu, .int .i64 x.su, .int .i64 x.li])).run Tryz.prog W = .ok (.bool true) W := fun W => by
              have := eql_ct y x W; rw [decide_eq_true hyx] at this; exact this
            have HPE := Lib.hid (HPL.out.trans (if_pos hyx))
            clear hyx hs1 hs2
            go_upto_region 4 with (fail)
            go_quiet (fail)
            go_wp2_with fail
            go_ret
            refine ⟨_, n, c, rfl, hc, ?_, HX1.out.trans (HXC.out.drewN _)⟩
            rw [HPE.out]
            exact Lay.row_mono (HR.out _ (HXC.out.drewN _)) fun j hj _ => .inl hj
          · have d : ∀ W, (binOp .eql 69 (.agg #[.int .i64 y.br, .int .i64 y.nu, .int .i64 y.su, .int .i64 y.li]) (.agg #[.int .i64 x.br, .int .i64 x.nu, .int .i64 x.su, .int .i64 x.li])).run Tryz.prog W = .ok (.bool false) W := fun W => by
              have := eql_ct y x W; rw [decide_eq_false hyx] at this; exact this
            have HPE := Lib.hid (HPL.out.trans (if_neg hyx))
            clear hyx
            go_upto_region 4 with (fail)
            go_quiet (fail)
            obtain ⟨A1, c1, w2, r1, x2, A2, c2, w3, r2, A3, c3, w4, r3, hc3, hrow, x4⟩ := HFN.out _ (HXC.out.drewN nq)
            have R1 := Lib.hid r1
            have R2 := Lib.hid r2
            have R3 := Lib.hid r3
            clear r1 r2 r3 q0 q1 q2 q3
            obtain ⟨q0, q1, q2, q3⟩ := HQ.out _ x2
            have HRO := Lib.hid hrow
            have HX4 := Lib.hid x4
            clear hrow x2 x4
            go_wp2_with (first
              | (at_builtin; refine wpList_append_run (s := .tmp 34) (x := .tmp 37) R1.out rfl rfl rfl rfl rfl ?_)
              | (at_builtin; refine wpList_append_run (s := .tmp 39) (x := .tmp 41) R2.out rfl rfl rfl rfl rfl ?_)
              | (at_builtin; refine wpList_append_run (s := .tmp 43) (x := .tmp 46) R3.out rfl rfl rfl rfl rfl ?_))
            go_ret
            refine ⟨A3, _, c3, rfl, hc3, ?_, HX1.out.trans HX4.out⟩
            rw [HPE.out]
            exact Lay.row_mono HRO.out fun j hj _ => hj.imp id (Nat.le_trans HZ.out)
        · obtain rfl : k = n := by omega
          have hkn' : ¬ ((k : Int) < (k : Int)) := by omega
          have hknb : decide ((k : Int) < (k : Int)) = false := decide_eq_false hkn'
          have HPE := Lib.hid (show placeP l x = l.take k ++ [x] ++ l.drop k from by
            have hp := HP.out
            rw [HL.out, List.take_length] at hp
            rw [HL.out, List.take_length, List.drop_length, List.append_nil]
            exact place_end hp)
          go_upto_region 4 with (fail)
          go_quiet (fail)
          obtain ⟨A1, c1, w2, r1, x2, A2, c2, w3, r2, A3, c3, w4, r3, hc3, hrow, x4⟩ := HFN.out _ (HXC.out.drewN nq)
          have R1 := Lib.hid r1
          have R2 := Lib.hid r2
          have R3 := Lib.hid r3
          clear r1 r2 r3
          obtain ⟨q0, q1, q2, q3⟩ := HQ.out _ x2
          have HRO := Lib.hid hrow
          have HX4 := Lib.hid x4
          clear hrow x2 x4
          go_wp2_with (first
            | (at_builtin; refine wpList_append_run (s := .tmp 34) (x := .tmp 37) R1.out rfl rfl rfl rfl rfl ?_)
            | (at_builtin; refine wpList_append_run (s := .tmp 39) (x := .tmp 41) R2.out rfl rfl rfl rfl rfl ?_)
            | (at_builtin; refine wpList_append_run (s := .tmp 43) (x := .tmp 46) R3.out rfl rfl rfl rfl rfl ?_))
          go_ret
          refine ⟨A3, _, c3, rfl, hc3, ?_, HX1.out.trans HX4.out⟩
          rw [HPE.out]
          exact Lay.row_mono HRO.out fun j hj _ => hj.imp id (Nat.le_trans HZ.out)
end Go.Proofs.YtdbnddmncbjobaaGreatDoor

/- The reference's Same: walked. -/
namespace Go.Proofs.YtdbnddmncbjobaaGreatDoor
open Go Go.RowKit
attribute [local go_sem] Oper.semAt_some

theorem dnCat (w : World) (m x k : Nat) : (w.drewN (m + x)).drewN k = w.drewN (m + (x + k)) := by simp [World.drewN, Nat.add_assoc]
def kIt : Lay (List UInt8 × List Ct) := kStr.pair kCt.list
theorem it_at {W : World} {P : Nat → Prop} {A : Option Addr} {n : Nat} {xs : Tb} (h : kIt.row W P A n xs) {i : Nat} {x : List UInt8 × List Ct} (hi : xs[i]? = some x) :
    ∃ b off A2 n2 c2, A = some ⟨b, off, none⟩ ∧ b < W.heap.size ∧ W.cell? ⟨b, off + i * 2, none⟩ = some (.string ⟨x.1.toArray⟩) ∧ W.cell? ⟨b, off + i * 2 + 1, none⟩ = some (.slice A2 n2 c2) ∧ n2 ≤ c2 ∧ kCt.row W P A2 n2 x.2 := by
  obtain ⟨b, off, cs, rfl, hb, _, ⟨ca, cb, rfl, h1, A2, n2, c2, rfl, h2, h3⟩, hc⟩ := Lay.row_at h hi
  have h1' : ca = [.string ⟨x.1.toArray⟩] := h1
  subst h1'
  exact ⟨b, off, A2, n2, c2, rfl, hb, hc 0 _ rfl, hc 1 _ rfl, h2, h3⟩
def SbR (w : World) (n : Nat) (xs ys : Tb) (s5 : Value) (W : World) : Prop := ∃ i : Nat, i ≤ n ∧ s5 = .int .i64 i ∧ xs.take i = ys.take i ∧ ∃ q, W = w.drewN q
set_option maxHeartbeats 4000000 in
set_option maxRecDepth 100000 in
theorem same_any (P Q : Nat → Prop) (w : World) (xs ys : Tb) (hx9 : ∀ x ∈ xs ++ ys, x.2.length ≤ 100000000) (A A' : Option Addr) (n n' c c' : Nat) (h : kIt.row w P A n xs) (h' : kIt.row w Q A' n' ys) (hn : n ≤ 100000000) (hn' : n' ≤ 100000000) :
    Calls Tryz.prog 18 #[.slice A n c, .slice A' n' c'] w fun e w' => e = .returned (.bool (decide (xs = ys))) ∧ ∃ q, w' = w.drewN q := by
  have HL := Lib.hid (Lay.row_len h)
  have HL' := Lib.hid (Lay.row_len h')
  have HR := Lib.hid h
  have HR' := Lib.hid h'
  obtain ⟨r, hr⟩ : ∃ r, decide (xs = ys) = r := ⟨_, rfl⟩
  rw [hr]
  have HV := Lib.hid hr
  clear h h' hr
  by_cases hne : n = n'
  case neg =>
    have d : ((n : Int) != (n' : Int)) = true := by simp; omega
    have hF : r = false := by rw [← HV.out]; exact decide_eq_false fun e => hne (by rw [HL.out, HL'.out, e])
    subst hF
    go_enter Tryz.func18, Tryz.ntmps18
    go_wp2_with fail
    go_ret
    exact ⟨rfl, 0, rfl⟩
  subst hne
  go_enter Tryz.func18, Tryz.ntmps18
  go_wp2_with fail
  go_loopw [5] (fun s5 W => SbR w n xs ys s5 W) (fun s5 _ => toM n s5)
  case atStart => exact ⟨0, by omega, rfl, rfl, 0, rfl⟩
  case round =>
    obtain ⟨i, hi, rfl, hp, q, rfl⟩ := hrel
    have HP := Lib.hid hp
    clear hp
    by_cases hlt : i < n
    case neg =>
      obtain rfl : i = n := by omega
      have hni : ¬ ((i : Int) < (i : Int)) := by omega
      have hF : r = true := by
        rw [← HV.out]
        have := HP.out
        rw [HL.out, List.take_length] at this
        rw [← HL.out, HL'.out, List.take_length] at this
        exact decide_eq_true this
      subst hF
      go_wp2_with fail
      go_ret
      exact ⟨rfl, q, rfl⟩
    have hI : (i : Int) < (n : Int) := by omega
    obtain ⟨x, hx⟩ : ∃ x, xs[i]? = some x := ⟨_, List.getElem?_eq_getElem (by have := HL.out; omega)⟩
    obtain ⟨y, hy⟩ : ∃ y, ys[i]? = some y := ⟨_, List.getElem?_eq_getElem (by have := HL'.out; omega)⟩
    obtain ⟨b, off, A2, n2, c2, rfl, _, a0, a1, _, ra⟩ := it_at HR.out hx
    obtain ⟨b', off', A3, n3, c3, rfl, _, b0, b1, _, rb⟩ := it_at HR'.out hy
    have hx1 := hx9 x (List.mem_append_left _ (List.mem_of_getElem? hx))
    have hy1 := hx9 y (List.mem_append_right _ (List.mem_of_getElem? hy))
    have l2 := Lay.row_len ra
    have l3 := Lay.row_len rb
    have HX := Lib.hid hx
    have HY := Lib.hid hy
    clear hx hy
    have HS := Lib.hid (fun q => samec_any P Q (w.drewN q) x.2 y.2 A2 A3 n2 n3 c2 c3 ra rb (by omega) (by omega))
    clear ra rb l2 l3 hx1 hy1
    obtain ⟨xk, xl⟩ := x
    obtain ⟨yk, yl⟩ := y
    simp only at a0 a1 b0 b1 HS
    by_cases hk : xk = yk
    · subst hk
      by_cases hl : xl = yl
      · subst hl
        rw [show decide (xl = xl) = true from decide_eq_true rfl] at HS
        go_upto_region 6 with (fail)
        go_quiet (first | (go_at_call 27; refine (HS.out _).mono ?_; rintro e w1 ⟨rfl, k, rfl⟩; exact ⟨rfl, _, dnCat _ _ _ _⟩))
        go_wp2_with fail
        go_roundw
        case rel => exact ⟨i + 1, by omega, by go_num, take_eq HP.out HX.out HY.out rfl, _, rfl⟩
        case measure => simp only [toM]; omega
      · rw [decide_eq_false hl] at HS
        have hF : r = false := by
          rw [← HV.out]
          exact decide_eq_false fun e => hl (by have h9 := HX.out; rw [e, HY.out] at h9; injection h9 with h9; injection h9 with _ h9; exact h9.symm)
        subst hF
        clear hl
        go_upto_region 6 with (fail)
        go_quiet (first | (go_at_call 27; refine (HS.out _).mono ?_; rintro e w1 ⟨rfl, k, rfl⟩; exact ⟨rfl, _, dnCat _ _ _ _⟩))
        go_wp2_with fail
        go_ret
        exact ⟨rfl, q + nq, by simp [World.drewN, Nat.add_assoc]⟩
    · have d1 : (xk == yk) = false := by simpa using hk
      have hF : r = false := by
        rw [← HV.out]
        exact decide_eq_false fun e => hk (by have h9 := HX.out; rw [e, HY.out] at h9; injection h9 with h9; injection h9 with h9 _; exact h9.symm)
      subst hF
      clear hk
      go_upto_region 6 with (fail)
      go_quiet (fail)
      go_wp2_with fail
      go_ret
      exact ⟨rfl, q + nq, by simp [World.drewN, Nat.add_assoc]⟩
end Go.Proofs.YtdbnddmncbjobaaGreatDoor

/- Labels: they are different; the place of a word leads to its page. -/
namespace Go.Proofs.YtdbnddmncbjobaaGreatDoor

/-- a before b. -/
def lblt (a b : Pg) : Prop := a.num < b.num ∨ a.num = b.num ∧ a.suf < b.suf
theorem pagesT_one (ent ver : Int) : ∀ (ps : List (List Ln × List Ln)) (n s : Int), (pagesT ent ver true ps n s).2 = (n + ps.length, s) ∧ (pagesT ent ver true ps n s).1.length = ps.length ∧
    (∀ p ∈ (pagesT ent ver true ps n s).1, n < p.num ∧ p.num ≤ n + ps.length ∧ p.suf = s ∧ p.ent = ent ∧ p.ver = ver) ∧ (pagesT ent ver true ps n s).1.Pairwise lblt := by
  intro ps
  induction ps with
  | nil => intro n s; simp [pagesT]
  | cons p ps ih =>
    intro n s
    simp only [pagesT, if_true]
    obtain ⟨h1, h2, h3, h4⟩ := ih (n + 1) s
    refine ⟨?_, by simp [h2], fun x hx => ?_, ?_⟩
    · rw [h1]; simp only [List.length_cons]; congr 1; omega
    · rcases List.mem_cons.1 hx with rfl | hx
      · simp; omega
      · have := h3 x hx; simp only [List.length_cons]; omega
    · rw [List.pairwise_cons]
      exact ⟨fun x hx => .inl (by have := (h3 x hx).1; simp only; omega), h4⟩
theorem pagesT_more (ent ver : Int) : ∀ (ps : List (List Ln × List Ln)) (n s : Int), (pagesT ent ver false ps n s).2 = (n, s + ps.length) ∧ (pagesT ent ver false ps n s).1.length = ps.length ∧
    (∀ p ∈ (pagesT ent ver false ps n s).1, p.num = n ∧ s < p.suf ∧ p.suf ≤ s + ps.length ∧ p.ent = ent ∧ p.ver = ver) ∧ (pagesT ent ver false ps n s).1.Pairwise lblt := by
  intro ps
  induction ps with
  | nil => intro n s; simp [pagesT]
  | cons p ps ih =>
    intro n s
    simp only [pagesT, Bool.false_eq_true, if_false]
    obtain ⟨h1, h2, h3, h4⟩ := ih n (s + 1)
    refine ⟨?_, by simp [h2], fun x hx => ?_, ?_⟩
    · rw [h1]; simp only [List.length_cons]; congr 1; omega
    · rcases List.mem_cons.1 hx with rfl | hx
      · simp; omega
      · have := h3 x hx; simp only [List.length_cons]; omega
    · rw [List.pairwise_cons]
      exact ⟨fun x hx => .inr (by have := h3 x hx; simp only; omega), h4⟩
/-- The texts of a section, all with so many pages at most. -/
def PgsOk (m h : Int) (K : Nat) (ts : List Tx) : Prop := ∀ t ∈ ts, (textP t m h).2 ≠ [] ∧ (textP t m h).2.length ≤ K
theorem pagesV_more (m h ent : Int) (K : Nat) : ∀ (vs : List Int) (ts : List Tx) (n s : Int), PgsOk m h K ts →
    (pagesV m h ent vs ts false n s).2 = n ∧ (∀ p ∈ (pagesV m h ent vs ts false n s).1, p.num = n ∧ s < p.suf ∧ p.suf ≤ s + (K * ts.length : Nat)) ∧ (pagesV m h ent vs ts false n s).1.Pairwise lblt := by
  intro vs
  induction vs with
  | nil => intro ts n s _; simp [pagesV]
  | cons v vs ih =>
    intro ts n s hk
    cases ts with
    | nil => simp [pagesV]
    | cons t ts =>
      simp only [pagesV]
      obtain ⟨h1, _, h3, h4⟩ := pagesT_more ent v (textP t m h).2 n s
      rw [h1]
      have hK := (hk t (by simp)).2
      obtain ⟨g1, g2, g3⟩ := ih ts n (s + (textP t m h).2.length) fun x hx => hk x (by simp [hx])
      refine ⟨g1, fun p hp => ?_, ?_⟩
      · simp only [List.length_cons, Nat.mul_add, Nat.mul_one]
        rcases List.mem_append.1 hp with hp | hp
        · have := h3 p hp; omega
        · have := g2 p hp; omega
      · rw [List.pairwise_append]
        exact ⟨h4, g3, fun a ha b hb => .inr (by have := h3 a ha; have := g2 b hb; omega)⟩
theorem pagesV_one (m h ent : Int) (K : Nat) : ∀ (vs : List Int) (ts : List Tx) (n : Int), PgsOk m h K ts →
    n ≤ (pagesV m h ent vs ts true n 0).2 ∧ (pagesV m h ent vs ts true n 0).2 ≤ n + K ∧ (∀ p ∈ (pagesV m h ent vs ts true n 0).1, n < p.num ∧ p.num ≤ (pagesV m h ent vs ts true n 0).2 ∧ 0 ≤ p.suf ∧ p.suf ≤ (K * ts.length : Nat)) ∧ (pagesV m h ent vs ts true n 0).1.Pairwise lblt := by
  intro vs ts n hk
  cases vs with
  | nil => simp [pagesV]; omega
  | cons v vs =>
    cases ts with
    | nil => simp [pagesV]; omega
    | cons t ts =>
      simp only [pagesV]
      obtain ⟨h1, _, h3, h4⟩ := pagesT_one ent v (textP t m h).2 n 0
      rw [h1]
      have hK := hk t (by simp)
      have hp : 1 ≤ (textP t m h).2.length := List.length_pos_iff.2 hK.1
      obtain ⟨g1, g2, g3⟩ := pagesV_more m h ent K vs ts (n + (textP t m h).2.length) 0 fun x hx => hk x (by simp [hx])
      rw [g1]
      refine ⟨by omega, by omega, fun p hp => ?_, ?_⟩
      · simp only [List.length_cons, Nat.mul_add, Nat.mul_one]
        rcases List.mem_append.1 hp with hp | hp
        · have := h3 p hp; omega
        · have := g2 p hp; omega
      · rw [List.pairwise_append]
        exact ⟨h4, g3, fun a ha b hb => by
          have h5 := h3 a ha; have h6 := g2 b hb
          by_cases h7 : a.num = n + (textP t m h).2.length
          · exact .inr ⟨by omega, by omega⟩
          · exact .inl (by omega)⟩
theorem pagesS_ok (m h : Int) (K V : Nat) : ∀ (l : List Se) (n : Int), (∀ x ∈ l, PgsOk m h K x.texts ∧ x.texts.length ≤ V) →
    (∀ p ∈ pagesS m h l n, n < p.num ∧ p.num ≤ n + (K * l.length : Nat) ∧ 0 ≤ p.suf ∧ p.suf ≤ (K * V : Nat)) ∧ (pagesS m h l n).Pairwise lblt := by
  intro l
  induction l with
  | nil => intro n _; simp [pagesS]
  | cons x l ih =>
    intro n hk
    simp only [pagesS]
    obtain ⟨h1, h2, h3, h4⟩ := pagesV_one m h x.ent K x.vers x.texts n (hk x (by simp)).1
    obtain ⟨g1, g2⟩ := ih (pagesV m h x.ent x.vers x.texts true n 0).2 fun y hy => hk y (by simp [hy])
    have hV : K * x.texts.length ≤ K * V := Nat.mul_le_mul_left _ (hk x (by simp)).2
    refine ⟨fun p hp => ?_, ?_⟩
    · simp only [List.length_cons, Nat.mul_add, Nat.mul_one]
      rcases List.mem_append.1 hp with hp | hp
      · have := h3 p hp; omega
      · have := g1 p hp; omega
    · rw [List.pairwise_append]
      exact ⟨h4, g2, fun a ha b hb => .inl (by have := h3 a ha; have := g1 b hb; omega)⟩
/-- In a list whose labels grow, the page with the label of a page is that page. -/
theorem find_lab : ∀ (l : List Pg), l.Pairwise lblt → ∀ p ∈ l, l.find? (fun q => decide (q.num = p.num ∧ q.suf = p.suf)) = some p := by
  intro l
  induction l with
  | nil => intro _ p hp; simp at hp
  | cons a l ih =>
    intro hl p hp
    rw [List.pairwise_cons] at hl
    rcases List.mem_cons.1 hp with rfl | hp
    · rw [List.find?_cons_of_pos (by simp)]
    · rw [List.find?_cons_of_neg (by
        have := hl.1 p hp
        unfold lblt at this
        simp only [decide_eq_true_eq]; omega)]
      exact ih hl.2 p hp
end Go.Proofs.YtdbnddmncbjobaaGreatDoor

/- What is added, corrected, struck and frozen leaves the pages that were there. -/
namespace Go.Proofs.YtdbnddmncbjobaaGreatDoor

/-- A book whose labels are different and whose entries are. -/
structure OkK (b : Bk) : Prop where
  pg : ∀ x ∈ b.secs, ∃ K, PgsOk b.ms b.ht K x.texts
  vs : ∀ x ∈ b.secs, x.vers ≠ [] ∧ x.vers.length = x.texts.length
  ent : (b.secs.map (·.ent)).Nodup
theorem pgs_all {b : Bk} (h : ∀ x ∈ b.secs, ∃ K, PgsOk b.ms b.ht K x.texts) : ∃ K V, ∀ x ∈ b.secs, PgsOk b.ms b.ht K x.texts ∧ x.texts.length ≤ V := by
  suffices ∀ l : List Se, (∀ x ∈ l, ∃ K, PgsOk b.ms b.ht K x.texts) → ∃ K V, ∀ x ∈ l, PgsOk b.ms b.ht K x.texts ∧ x.texts.length ≤ V from this _ h
  intro l
  induction l with
  | nil => intro _; exact ⟨0, 0, fun x hx => by simp at hx⟩
  | cons a l ih =>
    intro hl
    obtain ⟨K, V, h1⟩ := ih fun x hx => hl x (by simp [hx])
    obtain ⟨K', h2⟩ := hl a (by simp)
    refine ⟨max K K', max V a.texts.length, fun x hx => ?_⟩
    rcases List.mem_cons.1 hx with rfl | hx
    · exact ⟨fun t ht => ⟨(h2 t ht).1, by have := (h2 t ht).2; omega⟩, by omega⟩
    · exact ⟨fun t ht => ⟨((h1 x hx).1 t ht).1, by have := ((h1 x hx).1 t ht).2; omega⟩, by have := (h1 x hx).2; omega⟩
theorem sorted_of {b : Bk} (h : ∀ x ∈ b.secs, ∃ K, PgsOk b.ms b.ht K x.texts) : (pagesB b).Pairwise lblt := by
  obtain ⟨K, V, hk⟩ := pgs_all h
  exact (pagesS_ok b.ms b.ht K V b.secs 0 hk).2
theorem pagesS_ends (m h : Int) : ∀ (l : List Se) (n : Int), ∃ n', ∀ r, pagesS m h (l ++ r) n = pagesS m h l n ++ pagesS m h r n' := by
  intro l
  induction l with
  | nil => intro n; exact ⟨n, fun r => rfl⟩
  | cons x l ih =>
    intro n
    obtain ⟨n', h'⟩ := ih (pagesV m h x.ent x.vers x.texts true n 0).2
    exact ⟨n', fun r => by simp only [List.cons_append, pagesS, h', List.append_assoc]⟩
theorem whereG_left (e v w : Int) (A R : List Pg) (x : Int × Int × Nat) (h : whereG e v w A = some x) : whereG e v w (A ++ R) = some x := by
  induction A with
  | nil => simp [whereG] at h
  | cons p A ih =>
    simp only [List.cons_append, whereG] at h ⊢
    split at h
    · next hc => rw [if_pos hc]; exact ih h
    · next hc =>
      rw [if_neg hc]
      split at h
      · exact h
      · exact ih h
/-- What was cited stays: the pages of b are pages of b', and the words of a version of an entry stand where they stood. -/
structure Keeps (b b' : Bk) (e v : Int) : Prop where
  page : ∀ n s p, pageP b n s = some p → pageP b' n s = some p
  place : ∀ w x, whereP b e v w = some x → whereP b' e v w = some x
  ok : OkK b'
theorem Keeps.refl {b : Bk} (h : OkK b) (e v : Int) : Keeps b b e v := ⟨fun _ _ _ h => h, fun _ _ h => h, h⟩
theorem Keeps.trans {b c d : Bk} {e v : Int} (h : Keeps b c e v) (k : Keeps c d e v) : Keeps b d e v := ⟨fun n s p hp => k.page n s p (h.page n s p hp), fun w x hw => k.place w x (h.place w x hw), k.ok⟩
theorem page_of_mem {b : Bk} (h : OkK b) {p : Pg} (hp : p ∈ pagesB b) : pageP b p.num p.suf = some p := find_lab _ (sorted_of h.pg) p hp
theorem page_mem {b : Bk} {n s : Int} {p : Pg} (h : pageP b n s = some p) : p ∈ pagesB b ∧ p.num = n ∧ p.suf = s := by
  unfold pageP at h
  have h1 := List.find?_some h
  simp only [decide_eq_true_eq] at h1
  exact ⟨List.mem_of_find?_eq_some h, h1⟩
theorem keeps_of {b b' : Bk} (h' : OkK b') {e v : Int} (hsub : ∀ p ∈ pagesB b, p ∈ pagesB b') (hw : ∀ w x, whereP b e v w = some x → whereP b' e v w = some x) : Keeps b b' e v :=
  ⟨fun n s p hp => by
    obtain ⟨h1, rfl, rfl⟩ := page_mem hp
    exact page_of_mem h' (hsub p h1), hw, h'⟩
/-- A further section. -/
theorem keeps_add {b : Bk} (h : OkK b) (e v : Int) (x : Se) (hx : ∃ K, PgsOk b.ms b.ht K x.texts) (hv : x.vers ≠ [] ∧ x.vers.length = x.texts.length) (hn : ∀ y ∈ b.secs, y.ent ≠ x.ent) : Keeps b { b with secs := b.secs ++ [x] } e v := by
  obtain ⟨n', hp⟩ := pagesS_ends b.ms b.ht b.secs 0
  have hp := hp [x]
  refine keeps_of ⟨fun y hy => ?_, fun y hy => ?_, ?_⟩ (fun p hp' => ?_) (fun w y hw => ?_)
  · simp only [List.mem_append, List.mem_singleton] at hy
    rcases hy with hy | rfl
    · exact h.pg y hy
    · exact hx
  · simp only [List.mem_append, List.mem_singleton] at hy
    rcases hy with hy | rfl
    · exact h.vs y hy
    · exact hv
  · simp only [List.map_append, List.map_cons, List.map_nil]
    rw [List.nodup_append]
    refine ⟨h.ent, by simp, fun a ha b' hb => ?_⟩
    obtain ⟨y, hy, rfl⟩ := List.mem_map.1 ha
    simp only [List.mem_singleton] at hb
    subst hb
    exact hn y hy
  · show p ∈ pagesS b.ms b.ht (b.secs ++ [x]) 0
    rw [hp]; exact List.mem_append_left _ hp'
  · show whereG e v w (pagesS b.ms b.ht (b.secs ++ [x]) 0) = _
    rw [hp]; exact whereG_left e v w _ _ y hw
end Go.Proofs.YtdbnddmncbjobaaGreatDoor

/- Generated books are regular. -/
namespace Go.Proofs.YtdbnddmncbjobaaGreatDoor

/-- A book whose texts are generated ones: at most N sections, at most V texts in each. -/
structure OkB (b : Bk) (N V : Nat) : Prop where
  m0 : 500 ≤ b.ms
  m1 : b.ms ≤ 2000
  h0 : 4 ≤ b.ht
  h1 : b.ht ≤ 100
  n : b.secs.length ≤ N
  vs : ∀ x ∈ b.secs, x.vers.length = x.texts.length ∧ x.vers ≠ [] ∧ x.texts.length ≤ V
  tx : ∀ x ∈ b.secs, ∀ t ∈ x.texts, OkT t
  ent : (b.secs.map (·.ent)).Nodup
theorem pagesT_len (ent v : Int) (f : Bool) : ∀ (ps : List (List Ln × List Ln)) (n s : Int), (pagesT ent v f ps n s).1.length = ps.length := by
  intro ps
  induction ps with
  | nil => intro n s; rfl
  | cons p ps ih => intro n s; simp [pagesT, ih]
theorem pagesV_len (m h ent : Int) (K : Nat) : ∀ (vs : List Int) (ts : List Tx) (f : Bool) (n s : Int), (∀ t ∈ ts, (textP t m h).2.length ≤ K) → (pagesV m h ent vs ts f n s).1.length ≤ K * ts.length := by
  intro vs
  induction vs with
  | nil => intro ts f n s _; simp [pagesV]
  | cons v vs ih =>
    intro ts f n s hk
    cases ts with
    | nil => simp [pagesV]
    | cons t ts =>
      simp only [pagesV, List.length_append, pagesT_len, List.length_cons, Nat.mul_add, Nat.mul_one]
      have h1 := hk t (by simp)
      have h2 := ih ts false (pagesT ent v f (textP t m h).2 n s).2.1 (pagesT ent v f (textP t m h).2 n s).2.2 fun t ht => hk t (by simp [ht])
      omega
theorem pagesS_len (m h : Int) (K V : Nat) : ∀ (l : List Se) (n : Int), (∀ x ∈ l, (∀ t ∈ x.texts, (textP t m h).2.length ≤ K) ∧ x.texts.length ≤ V) → (pagesS m h l n).length ≤ K * V * l.length := by
  intro l
  induction l with
  | nil => intro n _; simp [pagesS]
  | cons x l ih =>
    intro n hk
    simp only [pagesS, List.length_append, List.length_cons, Nat.mul_add, Nat.mul_one]
    have h1 := pagesV_len m h x.ent K x.vers x.texts true n 0 (hk x (by simp)).1
    have h2 := ih (pagesV m h x.ent x.vers x.texts true n 0).2 fun y hy => hk y (by simp [hy])
    have h3 : K * x.texts.length ≤ K * V := Nat.mul_le_mul_left _ (hk x (by simp)).2
    omega
theorem OkT.small {t : Tx} (h : OkT t) : TxS t :=
  ⟨by have := h.np; omega, by have := h.nn; omega, fun p hp => by
    rcases List.mem_append.1 hp with hp | hp
    · have := (h.par.len p hp).2; omega
    · have := (h.len p hp).2; omega⟩
theorem OkB.bkS {b : Bk} {N V : Nat} (h : OkB b N V) (hN : N ≤ 1000000) (hV : V ≤ 1000000) : BkS b.secs :=
  ⟨Nat.le_trans h.n hN, fun x hx => by have := h.vs x hx; omega, fun x hx => by have := h.vs x hx; omega, fun x hx t ht => (h.tx x hx t ht).small⟩
theorem OkB.pgs {b : Bk} {N V : Nat} (h : OkB b N V) : ∀ x ∈ b.secs, PgsOk b.ms b.ht 200 x.texts ∧ x.texts.length ≤ V := fun x hx =>
  ⟨fun t ht => by have := textP_ok (h.tx x hx t ht) h.m0 h.m1 h.h0 h.h1; exact ⟨this.2.1, this.2.2.1⟩, (h.vs x hx).2.2⟩
theorem OkB.np {b : Bk} {N V : Nat} (h : OkB b N V) : (pagesB b).length ≤ 200 * V * N :=
  Nat.le_trans (pagesS_len b.ms b.ht 200 V b.secs 0 fun x hx => ⟨fun t ht => ((h.pgs x hx).1 t ht).2, (h.pgs x hx).2⟩) (Nat.mul_le_mul_left _ h.n)
theorem OkB.bkI {b : Bk} {N V : Nat} (h : OkB b N V) (hN : N ≤ 1000) (hV : 200 * V * N ≤ 1000000) (hV' : V ≤ 1000) : BkI b :=
  ⟨h.bkS (by omega) (by omega), h.m0, h.m1, ⟨by have := h.h0; omega, h.h1⟩, fun x hx => (h.vs x hx).1, fun x hx t ht => txP_of (h.tx x hx t ht) h.m0 h.m1 h.h0 h.h1, Nat.le_trans h.np hV, fun x hx t ht p hp => by
    have h1 := (textP_ok (h.tx x hx t ht) h.m0 h.m1 h.h0 h.h1).2.2.2 p hp
    have := h.h1
    omega⟩
theorem OkB.okK {b : Bk} {N V : Nat} (h : OkB b N V) : OkK b :=
  ⟨fun x hx => ⟨200, (h.pgs x hx).1⟩, fun x hx => ⟨(h.vs x hx).2.1, (h.vs x hx).1⟩, h.ent⟩
end Go.Proofs.YtdbnddmncbjobaaGreatDoor
