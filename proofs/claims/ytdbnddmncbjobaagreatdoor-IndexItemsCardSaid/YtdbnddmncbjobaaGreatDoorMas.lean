/- A range over a function whose loop variable is laid in a block by the assignment. -/
import Derived.Test.YtdbnddmncbjobaaGreatDoorMar
import Derived.Shelf.Abstract
import Derived.Shelf.RegionOpen
import Derived.OwnWalkIn
import Derived.LoopNIn
import Derived.LoopIn
namespace Go.Proofs.YtdbnddmncbjobaaGreatDoor
section
open Go Go.RowKit
theorem rangeH {α : Type} {F : Fence} {n : Nat} {P : Program} {g : Operand} {ps : Array Tmp} {assign body : Code} {Q : Exit → Act → World → Prop} {a : Act} {w : World}
  (hro : F.round = none) (h1 : 1 ≤ n) {gf : Nat} {lb : Array Value} (hg : a.eval g = .func (.func gf) #[] lb) (hFg : F.fn gf) (eg : ∀ args w, (callFunc gf args).run P w = .ok (.enter gf args) w)
  {encs : α → Array Value} {Rp : (Nat → Prop) → α → World → Prop} {S Sp : List α → Prop} {Q0 : Nat → Prop} (hseq : RSeq F (n - 1) P gf lb encs Rp S Sp Q0 w) (hps : ∀ x, (encs x).size = ps.size)
  (hRp : ∀ q x W l o', Rp q x W → (∀ j, q j → j ≠ l) → Rp q x (W.putObj l o'))
  (I : List α → (Nat → Prop) → World → Prop) (Ix : Code → List α → (Nat → Prop) → World → Prop) (hI : AbMv (w.heap.size + 2) I) (hIx : ∀ c, AbMv (w.heap.size + 2) (Ix c))
  (hIp : ∀ s q W o', I s q W → I s q (W.putObj (w.heap.size + 1) o')) (hIxp : ∀ c s q W o', Ix c s q W → Ix c s q (W.putObj (w.heap.size + 1) o'))
  (_hQ0 : ∀ j, Q0 j → j < w.heap.size) (hIQ : ∀ s q W, I s q W → ∀ j, q j → j ≠ w.heap.size ∧ j ≠ w.heap.size + 1)
  (h0 : ∀ W, Ext w W → W.heap.size = w.heap.size + 2 → I [] Q0 W) (Ax : α → (Nat → Prop) → Act → World → Prop) (hAp : ∀ x q a' W o', Ax x q a' W → Ax x q a' (W.putObj (w.heap.size + 1) o')) (hRx : ∀ q x W W', Rp q x W → Ext W W' → Rp q x W')
  (hassign : ∀ (l : Nat) (x : α) (q : Nat → Prop) (W : World) (K : Act → World → Prop), Rp q x W → w.heap.size + 2 < W.heap.size → (∀ j, q j → j < W.heap.size) → (∀ a' W', Ext W W' → Ax x q a' W' → K a' W') →
   assign.wpIn (F.inRound l) (n - 1 - 1) P (Exit.then K (fun _ _ _ => False)) { tmps := (ps.zip (encs x)).foldl (fun t (p, v) => t.setIfInBounds p v) a.tmps, defers := [] } W)
  (hbody : ∀ (pre : List α) (x : α) (q : Nat → Prop) (a' : Act) (W : World), I pre q W → Rp (fun j => (q j ∧ j ≠ w.heap.size + 2) ∧ w.heap.size ≤ j) x W → Ax x (fun j => (q j ∧ j ≠ w.heap.size + 2) ∧ w.heap.size ≤ j) a' W → (∀ j, q j → j < W.heap.size) → w.heap.size + 2 < W.heap.size → Sp (pre ++ [x]) → body.wpIn (F.inRound (w.heap.size + 1)) (n - 1 - 1) P (rgPost (w.heap.size + 1) w.heap.size q I Ix (pre ++ [x]) W) a' W)
  (hdone : ∀ (xs : List α) (q : Nat → Prop) (W : World), S xs → I xs q W → W.heap[w.heap.size]? = some (.deferred (some [])) → Q .normal { a with defers := { target := .collected w.heap.size, args := #[] } :: a.defers } W)
  (hstop : ∀ (c : Code) (pre : List α) (q : Nat → Prop) (W : World), Sp pre → Ix c pre q W → W.heap[w.heap.size]? = some (.deferred (some [])) → c.wpIn F n P Q { a with defers := { target := .collected w.heap.size, args := #[] } :: a.defers } W) :
  (Code.rangeFunc g ps assign body).wpIn F n P Q a w := by
 refine wpIn_rangeFunc ?_
 intro fn hfn
 rw [hro]
 obtain ⟨rec, hrec⟩ : ∃ rec : LoopState → Option Code → Loop, rec = fun st pe => { state := st, pending := pe, fn, tmps := a.tmps, params := ps, assign, body, defers := w.heap.size } := ⟨_, rfl⟩
 obtain ⟨W1, hW1⟩ : ∃ W1, (w.alloc (.deferred (some []))).alloc (.loop (rec .ready none)) = W1 := ⟨_, rfl⟩
 have hx1 : Ext w W1 := by rw [← hW1]; exact ((Ext.refl w).alloc _).alloc _
 have hs1 : W1.heap.size = w.heap.size + 2 := by rw [← hW1]; simp
 have hL1 : W1.heap[w.heap.size + 1]? = some (.loop (rec .ready none)) := by
  rw [← hW1]; have := World.alloc_heap_new (w.alloc (.deferred (some []))) (.loop (rec .ready none)); rwa [World.size_alloc] at this
 have hK1 : W1.heap[w.heap.size]? = some (.deferred (some [])) := by
  rw [← hW1]; exact (Below.heap_alloc _ _ _ (by simp)).trans (World.alloc_heap_new w _)
 refine ⟨w.heap.size + 1, [{ target := .collected w.heap.size, args := #[] }], W1, { target := .fn (.func gf) lb, args := #[.func (.yield (w.heap.size + 1)) #[] #[]] }, W1, gf,
  #[.func (.yield (w.heap.size + 1)) #[] #[]] ++ lb, W1, ?_, ?_, ?_, ?_, fun _ => h1, ?_⟩
 ·rw [← hW1, hrec]; exact run_enterLoop_outer _ _ _ _ _
 ·simp only [resolve, hg]
  simp [go_sem]
 ·intro f' hf'; simp [Target.leads] at hf'; subst hf'; exact hFg
 ·simp [invoke, go_sem, eg]
 ·have hne : ∀ {A B : World} {k : Nat} {o : Obj}, k < w.heap.size + 2 → Mv W1.heap.size A B → A.heap[k]? = some o → B.heap[k]? = some o := fun hk hm ho => hm.blk (by omega) ho
  refine (hseq (w.heap.size + 1)
   (fun pre q W => I pre q W ∧ W.heap[w.heap.size + 1]? = some (.loop (rec .ready none)) ∧ W.heap[w.heap.size]? = some (.deferred (some [])))
   (fun pre q W => ∃ c, Ix c pre q W ∧ W.heap[w.heap.size + 1]? = some (.loop (rec .done (some c))) ∧ W.heap[w.heap.size]? = some (.deferred (some [])))
   W1 hx1.lt (fun j hj => hx1.block j hj) hx1
   (fun s q q' A B hs hm hq => ⟨hI s q q' A B hs.1 (by rw [← hs1]; exact hm) (by rw [← hs1]; exact hq), hne (by omega) hm hs.2.1, hne (by omega) hm hs.2.2⟩)
   (fun s q q' A B hs hm hq => by
    obtain ⟨c, hc, hl, hk⟩ := hs
    exact ⟨c, hIx c s q q' A B hc (by rw [← hs1]; exact hm) (by rw [← hs1]; exact hq), hne (by omega) hm hl, hne (by omega) hm hk⟩)
   ?_ ⟨h0 W1 hx1 hs1, hL1, hK1⟩).mono ?_
  ·rintro pre x q W ⟨hi, hl, hk⟩ hrp hqs hlen hsp
   have hlt : w.heap.size + 1 < W.heap.size := (Array.getElem?_eq_some_iff.1 hl).1
   have hq1 := hIQ _ _ _ hi
   have hy := run_yield (P := P) (args := encs x) hl (by rw [hrec]; exact hps x)
   rw [hrec] at hy
   refine ⟨fn, _, assign, body, hy, roundIn_of_wpIn hfn (hassign _ x (fun j => (q j ∧ j ≠ w.heap.size + 2) ∧ w.heap.size ≤ j) W _ (by rw [← hs1]; exact hrp) (by rw [← hs1]; exact hlen) (fun j hj => hqs j hj.1.1) fun a' W' hx hax => ?_)⟩
   have hl' : W'.heap[w.heap.size + 1]? = some (.loop (rec .ready none)) := (hx.block _ hlt).trans hl
   have hk' : W'.heap[w.heap.size]? = some (.deferred (some [])) := (hx.block _ (by omega)).trans hk
   have hlt' : w.heap.size + 1 < W'.heap.size := Nat.lt_of_lt_of_le hlt hx.lt
   refine ⟨_, run_beginRound hl' (by rw [hrec]), ?_⟩
   obtain ⟨W2, hW2⟩ : ∃ W2, W2 = W'.putObj (w.heap.size + 1) (.loop { rec .ready none with state := .busy }) := ⟨_, rfl⟩
   rw [← hW2]
   have hl2 : W2.heap[w.heap.size + 1]? = some (.loop { rec .ready none with state := .busy }) := by rw [hW2]; exact World.putObj_heap_same hlt'
   have hk2 : W2.heap[w.heap.size]? = some (.deferred (some [])) := by rw [hW2]; exact (World.putObj_heap_other (by omega)).trans hk'
   have hq2 : ∀ j, q j → W2.heap[j]? = W.heap[j]? := fun j hj => by rw [hW2]; exact (World.putObj_heap_other (hq1 j hj).2).trans (hx.block j (hqs j hj))
   have hsz2 : W2.heap.size = W'.heap.size := by rw [hW2]; simp
   have hi' : I pre q W' := hI _ _ _ _ _ hi (Mv.of_ext hx) fun j hj => .inl hj
   refine wpIn_mono (hbody pre x q a' W2 (by rw [hW2]; exact hIp _ _ _ _ hi') (by rw [hW2]; exact hRp _ _ _ _ _ (hRx _ _ _ _ (by rw [← hs1]; exact hrp) hx) fun j hj => (hq1 j hj.1.1).2) (by rw [hW2]; exact hAp _ _ _ _ _ hax) (fun j hj => by rw [hsz2]; exact Nat.lt_of_lt_of_le (hqs j hj) hx.lt) (by rw [hsz2, ← hs1]; exact Nat.lt_of_lt_of_le hlen hx.lt) hsp) ?_
   have fin : ∀ (jump : Option Code) (W3 : World), W3.heap[w.heap.size + 1]? = W2.heap[w.heap.size + 1]? → W3.heap[w.heap.size]? = W2.heap[w.heap.size]? →
     (Instr.endRound (w.heap.size + 1) jump).run P W3 = .ok (.bool jump.isNone) (W3.putObj (w.heap.size + 1) (.loop (rec (if jump.isNone then .ready else .done) jump))) ∧
     (W3.putObj (w.heap.size + 1) (.loop (rec (if jump.isNone then .ready else .done) jump))).heap[w.heap.size + 1]? = some (.loop (rec (if jump.isNone then .ready else .done) jump)) ∧
     (W3.putObj (w.heap.size + 1) (.loop (rec (if jump.isNone then .ready else .done) jump))).heap[w.heap.size]? = some (.deferred (some [])) := fun jump W3 e1 e2 => by
    have hl3 := e1.trans hl2
    have := run_endRound (P := P) jump hl3
    rw [hrec] at this ⊢
    exact ⟨this, World.putObj_heap_same (Array.getElem?_eq_some_iff.1 hl3).1, (World.putObj_heap_other (by omega)).trans (e2.trans hk2)⟩
   rintro e a3 W3 hp
   cases e with
   | normal =>
    obtain ⟨⟨hk3, hd3⟩, hq3, hi3⟩ := hp
    obtain ⟨hr, hl4, hk4⟩ := fin none W3 hk3 hd3
    exact ⟨_, _, hr, .inl ⟨rfl, ⟨hIp _ _ _ _ hi3, hl4, hk4⟩, fun j hj => (World.putObj_heap_other (hq1 j hj).2).trans ((hq3 j hj).trans (hq2 j hj))⟩⟩
   | ret =>
    obtain ⟨⟨hk3, hd3⟩, hi3⟩ := hp
    obtain ⟨hr, hl4, hk4⟩ := fin (some .ret) W3 hk3 hd3
    exact ⟨_, _, hr, .inr ⟨rfl, .ret, hIxp _ _ _ _ _ hi3, hl4, hk4⟩⟩
   | exit id =>
    obtain ⟨⟨hk3, hd3⟩, hi3⟩ := hp
    obtain ⟨hr, hl4, hk4⟩ := fin (some (.exit id)) W3 hk3 hd3
    exact ⟨_, _, hr, .inr ⟨rfl, .exit id, hIxp _ _ _ _ _ hi3, hl4, hk4⟩⟩
   | goto t =>
    obtain ⟨⟨hk3, hd3⟩, hi3⟩ := hp
    obtain ⟨hr, hl4, hk4⟩ := fin (some (.goto t)) W3 hk3 hd3
    exact ⟨_, _, hr, .inr ⟨rfl, .goto t, hIxp _ _ _ _ _ hi3, hl4, hk4⟩⟩
   | panic ch => exact hp.elim
   | outgrown => exact hp.elim
  ·rintro e W2 ⟨⟨v, rfl⟩, (⟨xs, q, hS, hi, hl, hk⟩ | ⟨pre, q, hSp, c, hi, hl, hk⟩)⟩
   ·exact ⟨none, _, by have := run_endLoop (P := P) hl (by rw [hrec]; simp); rw [hrec] at this; exact this, hdone xs q _ hS (hIp _ _ _ _ hi) ((World.putObj_heap_other (by omega)).trans hk)⟩
   ·exact ⟨some c, _, by have := run_endLoop (P := P) hl (by rw [hrec]; simp); rw [hrec] at this; exact this, hstop c pre q _ hSp (hIxp _ _ _ _ _ hi) ((World.putObj_heap_other (by omega)).trans hk)⟩
end
section
open Go Go.RowKit Go.Shelf
attribute [local go_sem] Oper.semAt_some
theorem Ext.putObj {a W : World} (h : Ext a W) {k : Nat} (hk : a.heap.size ≤ k) (o : Obj) : Ext a (W.putObj k o) :=
 ⟨h.os, h.tape, h.output, by simpa using h.size, fun j hj => (World.putObj_heap_other (by omega)).trans (h.block j hj)⟩
theorem EnvW.lt4 {w : World} (h : EnvW w) : 4 < w.heap.size := by
 have h1 := h w (Ext.refl w)
 have hg : Tryz.prog.globalNamed "rollbook/glyph.widths" = some 4 := by kernel_rfl
 unfold World.var? at h1
 rw [hg] at h1
 simp only [Option.bind_some] at h1
 rcases Nat.lt_or_ge 4 w.heap.size with h9 | h9
 ·exact h9
 ·rw [Array.getElem?_eq_none h9] at h1
  exact absurd h1 (by simp)
theorem haO (W : World) (o : Obj) (j : Nat) (h : j < W.heap.size) : (W.alloc o).heap[j]? = W.heap[j]? := Below.heap_alloc _ _ _ h
theorem haA (W : World) (cs : Array Value) (t : TypeId) (j : Nat) (h : j = W.heap.size) : (W.alloc (.cells cs t)).heap[j]? = some (.cells cs t (0, 0)) := by subst h; exact heap_alloc_new _ _
theorem pgRp_ext {q : Nat → Prop} {x : PgV} {W W' : World} (h : pgRp q x W) (hx : Ext W W') : pgRp q x W' := ⟨h.1, h.2.1, Lay.row_ext h.2.2.1 hx, Lay.row_ext h.2.2.2.1 hx, h.2.2.2.2⟩
theorem pgRp_put {q : Nat → Prop} {x : PgV} {W : World} {l : Nat} {o : Obj} (h : pgRp q x W) (hq : ∀ j, q j → j ≠ l) : pgRp q x (W.putObj l o) :=
 ⟨h.1, h.2.1, Lay.row_keep h.2.2.1 (by simp) fun j hj _ => World.putObj_heap_other (hq j hj), Lay.row_keep h.2.2.2.1 (by simp) fun j hj _ => World.putObj_heap_other (hq j hj), h.2.2.2.2⟩
def pgCells (p : Pg) (A7 : Option Addr) (n7 c7 : Nat) (A8 : Option Addr) (n8 c8 : Nat) : Array Value := #[.int .i64 p.num, .int .i64 p.suf, .int .i64 p.ent, .int .i64 p.ver, .slice A7 n7 c7, .slice A8 n8 c8]
def lbIs (num suf : Int) (p : Pg) : Bool := decide (p.num = num ∧ p.suf = suf)
structure PgI (w : World) (num suf : Int) (pre : List PgV) (q : Nat → Prop) (W : World) : Prop where
 x : Ext w W
 s : w.heap.size + 7 ≤ W.heap.size
 q : ∀ j, q j → j < w.heap.size ∨ j = w.heap.size + 4 ∨ w.heap.size + 7 ≤ j
 l : W.heap[w.heap.size + 1]? = some (.cells #[.int .i64 num, .int .i64 suf] 64 (0, 0))
 r : W.heap[w.heap.size + 2]? = some (.cells (pgCells ⟨0, 0, 0, 0, [], []⟩ none 0 0 none 0 0) 84 (0, 0))
 b : W.heap[w.heap.size + 3]? = some (.cells #[.bool false] 4 (0, 0))
 n : (pre.map (·.1)).find? (lbIs num suf) = none
structure PgX (w : World) (num suf : Int) (c : Code) (pre : List PgV) (q : Nat → Prop) (W : World) : Prop where
 c : c = .ret
 x : Ext w W
 s : w.heap.size + 8 ≤ W.heap.size
 p : ∃ (p : Pg) (A7 : Option Addr) (n7 c7 : Nat) (A8 : Option Addr) (n8 c8 : Nat), (pre.map (·.1)).find? (lbIs num suf) = some p ∧ n7 ≤ c7 ∧ n8 ≤ c8 ∧
  kLn.row W (fun j => w.heap.size + 8 ≤ j) A7 n7 p.body ∧ kLn.row W (fun j => w.heap.size + 8 ≤ j) A8 n8 p.nts ∧
  W.heap[w.heap.size + 2]? = some (.cells (pgCells p A7 n7 c7 A8 n8 c8) 84 (0, 0))
 b : W.heap[w.heap.size + 3]? = some (.cells #[.bool true] 4 (0, 0))
theorem PgI.ab {w wl : World} {num suf : Int} (hs : wl.heap.size = w.heap.size + 5) : AbMv (wl.heap.size + 2) (PgI w num suf) := by
 intro s Q Q' A B h hm hg
 have hsz := h.s
 refine ⟨hm.ext w (by omega) h.x, Nat.le_trans h.s hm.size, fun j hj => ?_, hm.blk (by omega) h.l, hm.blk (by omega) h.r, hm.blk (by omega) h.b, h.n⟩
 rcases hg j hj with h1 | h1 | h1
 ·exact h.q j h1
 ·omega
 ·omega
theorem PgI.put {w wl : World} {num suf : Int} (hs : wl.heap.size = w.heap.size + 5) {s : List PgV} {q : Nat → Prop} {W : World} {o : Obj} (h : PgI w num suf s q W) : PgI w num suf s q (W.putObj (wl.heap.size + 1) o) :=
 ⟨h.x.putObj (by omega) o, by simpa using h.s, h.q, (World.putObj_heap_other (by omega)).trans h.l, (World.putObj_heap_other (by omega)).trans h.r, (World.putObj_heap_other (by omega)).trans h.b, h.n⟩
theorem PgX.ab {w wl : World} {num suf : Int} (hs : wl.heap.size = w.heap.size + 5) (c : Code) : AbMv (wl.heap.size + 2) (PgX w num suf c) := by
 intro s Q Q' A B h hm hg
 obtain ⟨p, A7, n7, c7, A8, n8, c8, h1, h2, h3, h4, h5, h6⟩ := h.p
 have hsz := h.s
 exact ⟨h.c, hm.ext w (by omega) h.x, Nat.le_trans h.s hm.size, ⟨p, A7, n7, c7, A8, n8, c8, h1, h2, h3, Lay.row_keep h4 hm.size fun j hj hl => hm.keep j (by omega) hl, Lay.row_keep h5 hm.size fun j hj hl => hm.keep j (by omega) hl, hm.blk (by omega) h6⟩, hm.blk (by omega) h.b⟩
theorem PgX.put {w wl : World} {num suf : Int} (hs : wl.heap.size = w.heap.size + 5) {c : Code} {s : List PgV} {q : Nat → Prop} {W : World} {k : Nat} {o : Obj} (hk : k = wl.heap.size + 1 ∨ k = wl.heap.size) (h : PgX w num suf c s q W) : PgX w num suf c s q (W.putObj k o) := by
 obtain ⟨p, A7, n7, c7, A8, n8, c8, h1, h2, h3, h4, h5, h6⟩ := h.p
 exact ⟨h.c, h.x.putObj (by omega) o, by simpa using h.s, ⟨p, A7, n7, c7, A8, n8, c8, h1, h2, h3, Lay.row_keep h4 (by simp) fun j hj hl => World.putObj_heap_other (by omega), Lay.row_keep h5 (by simp) fun j hj hl => World.putObj_heap_other (by omega), (World.putObj_heap_other (by omega)).trans h6⟩, (World.putObj_heap_other (by omega)).trans h.b⟩
end
section
open Go Go.RowKit Go.Shelf
attribute [local go_sem] Oper.semAt_some
variable {β : Type}
structure WhI (w : World) (e v wd : Int) (pre : List PgV) (q : Nat → Prop) (W : World) : Prop where
 x : Ext w W
 s : w.heap.size + 10 ≤ W.heap.size
 q : ∀ j, q j → j < w.heap.size ∨ j = w.heap.size + 7 ∨ w.heap.size + 10 ≤ j
 a1 : W.heap[w.heap.size + 1]? = some (.cells #[.int .i64 e] 3 (0, 0))
 a2 : W.heap[w.heap.size + 2]? = some (.cells #[.int .i64 v] 3 (0, 0))
 a3 : W.heap[w.heap.size + 3]? = some (.cells #[.int .i64 wd] 3 (0, 0))
 r4 : W.heap[w.heap.size + 4]? = some (.cells #[.int .i64 0, .int .i64 0] 64 (0, 0))
 r5 : W.heap[w.heap.size + 5]? = some (.cells #[.int .i64 0] 3 (0, 0))
 r6 : W.heap[w.heap.size + 6]? = some (.cells #[.bool false] 4 (0, 0))
 n : whereG e v wd (pre.map (·.1)) = none
structure WhX (w : World) (e v wd : Int) (c : Code) (pre : List PgV) (q : Nat → Prop) (W : World) : Prop where
 c : c = .ret
 x : Ext w W
 s : w.heap.size + 10 ≤ W.heap.size
 p : ∃ (n s : Int) (i : Nat), (∀ R, whereG e v wd (pre.map (·.1) ++ R) = some (n, s, i)) ∧ W.heap[w.heap.size + 4]? = some (.cells #[.int .i64 n, .int .i64 s] 64 (0, 0)) ∧ W.heap[w.heap.size + 5]? = some (.cells #[.int .i64 i] 3 (0, 0))
 b : W.heap[w.heap.size + 6]? = some (.cells #[.bool true] 4 (0, 0))
theorem WhI.ab {w wl : World} {e v wd : Int} (hs : wl.heap.size = w.heap.size + 8) : AbMv (wl.heap.size + 2) (WhI w e v wd) := by
 intro s Q Q' A B h hm hg
 have hsz := h.s
 refine ⟨hm.ext w (by omega) h.x, Nat.le_trans h.s hm.size, fun j hj => ?_, hm.blk (by omega) h.a1, hm.blk (by omega) h.a2, hm.blk (by omega) h.a3, hm.blk (by omega) h.r4, hm.blk (by omega) h.r5, hm.blk (by omega) h.r6, h.n⟩
 rcases hg j hj with h1 | h1 | h1
 ·exact h.q j h1
 ·omega
 ·omega
theorem WhI.put {w wl : World} {e v wd : Int} (hs : wl.heap.size = w.heap.size + 8) {s : List PgV} {q : Nat → Prop} {W : World} {o : Obj} (h : WhI w e v wd s q W) : WhI w e v wd s q (W.putObj (wl.heap.size + 1) o) :=
 ⟨h.x.putObj (by omega) o, by simpa using h.s, h.q, (World.putObj_heap_other (by omega)).trans h.a1, (World.putObj_heap_other (by omega)).trans h.a2, (World.putObj_heap_other (by omega)).trans h.a3, (World.putObj_heap_other (by omega)).trans h.r4, (World.putObj_heap_other (by omega)).trans h.r5, (World.putObj_heap_other (by omega)).trans h.r6, h.n⟩
theorem WhX.ab {w wl : World} {e v wd : Int} (hs : wl.heap.size = w.heap.size + 8) (c : Code) : AbMv (wl.heap.size + 2) (WhX w e v wd c) := by
 intro s Q Q' A B h hm hg
 obtain ⟨n, k, i, h1, h2, h3⟩ := h.p
 have hsz := h.s
 exact ⟨h.c, hm.ext w (by omega) h.x, Nat.le_trans h.s hm.size, ⟨n, k, i, h1, hm.blk (by omega) h2, hm.blk (by omega) h3⟩, hm.blk (by omega) h.b⟩
theorem WhX.put {w wl : World} {e v wd : Int} (hs : wl.heap.size = w.heap.size + 8) {c : Code} {s : List PgV} {q : Nat → Prop} {W : World} {k : Nat} {o : Obj} (hk : k = wl.heap.size + 1 ∨ k = wl.heap.size) (h : WhX w e v wd c s q W) : WhX w e v wd c s q (W.putObj k o) := by
 obtain ⟨n, m, i, h1, h2, h3⟩ := h.p
 exact ⟨h.c, h.x.putObj (by omega) o, by simpa using h.s, ⟨n, m, i, h1, (World.putObj_heap_other (by omega)).trans h2, (World.putObj_heap_other (by omega)).trans h3⟩, (World.putObj_heap_other (by omega)).trans h.b⟩
end
section
open Go Go.RowKit Go.Shelf
attribute [local go_sem] Oper.semAt_some
theorem wpListIn_append_run {F : Fence} {n : Nat} {P : Program} {w : World} {ops : Array Oper} {rest : List Oper} {o : Oper} {a : Act} {Q : Exit → Act → World → Prop} {s x : Operand} {t : TypeId} {vs vx v' : Value} {w' : World}
  (hr : (Builtin.append_ #[t, t] t #[vs, vx]).run P w = .ok v' w') (hgd : o.guard = none)
  (ho : o.op = .call { callee := .builtin .append, args := #[s, x], argTypes := #[t, t] }) (hty : o.type = t) (hs : a.eval s = vs) (hx : a.eval x = vx)
  (h : wpListIn F n P ops Q rest (a.put o.dst v') w') : wpListIn F n P ops Q (o :: rest) a w := by
 refine wpListIn_plain hgd fun K hK => ?_
 unfold Oper.wpIn
 refine ⟨by simp [Oper.about, ho, resolve, Target.leads, Sem.run_pure], ?_⟩
 rw [Oper.semAt_plain F _ _ (by rw [ho]; intro c hc'; cases hc')]
 rw [← hty] at hr
 simp [execOp, ho, resolve, invoke, builtin, hs, hx, hty, Result.andThen]
 rw [hty] at hr
 simp [hr]
 exact hK _ _ h
def ClPost (w : World) (b : Bk) (e : Ending) (w' : World) : Prop := ∃ A n c, e = .returned (.slice A n c) ∧ n ≤ c ∧ n ≤ 1000000 ∧ kPg.row w' (fun j => w.heap.size ≤ j) A n (pagesB b) ∧ Ext w w'
structure ClI (w : World) (D z : Nat) (pre : List PgV) (q : Nat → Prop) (W : World) : Prop where
 x : Ext w W
 s : D + 2 ≤ W.heap.size
 hq : ∀ j, q j → j ≠ z ∧ j ≠ D ∧ j ≠ D + 1
 v : ∃ A n c, n = pre.length ∧ n ≤ c ∧ W.heap[z]? = some (.cells #[.slice A n c] 106 (0, 0)) ∧ kPg.own 84 W (D + 3) (fun j => D + 3 ≤ j) (.slice A n c) (pre.map (·.1)) ∧ ∀ j, (Value.slice A n c).ownBlock = some j → ¬ q j
theorem ClI.ab {w wl : World} {z : Nat} (hwz : w.heap.size ≤ z) (hz : z < wl.heap.size) : AbMv (wl.heap.size + 2) (ClI w wl.heap.size z) := by
 intro s Q Q' A B h hm hg
 obtain ⟨Ad, n, c, h1, h2, h3, h4, h5⟩ := h.v
 have hlt := Lay.own_lt h4
 have hA := h.s
 refine ⟨hm.ext w (by omega) h.x, Nat.le_trans h.s hm.size, fun j hj => ?_, Ad, n, c, h1, h2, hm.blk (by omega) h3, Lay.own_keep h4 hm.size fun j hj hl => hm.keep j ?_ hl, fun j hj hq => ?_⟩
 ·rcases hg j hj with h1 | h1 | h1
  ·exact h.hq j h1
  ·omega
  ·omega
 ·rcases hj with hj | hj
  ·omega
  ·have := hlt j hj; omega
 ·have := hlt j hj
  rcases hg j hq with h6 | h6 | h6
  ·exact h5 j hj h6
  ·omega
  ·omega
theorem ClI.put {w wl : World} {z : Nat} (hwz : w.heap.size ≤ z) (hz : z < wl.heap.size) {s : List PgV} {q : Nat → Prop} {W : World} {k : Nat} {o : Obj} (hk : k = wl.heap.size + 1 ∨ k = wl.heap.size) (h : ClI w wl.heap.size z s q W) : ClI w wl.heap.size z s q (W.putObj k o) := by
 obtain ⟨Ad, n, c, h1, h2, h3, h4, h5⟩ := h.v
 have hlt := Lay.own_lt h4
 refine ⟨h.x.putObj (by omega) o, by simpa using h.s, h.hq, Ad, n, c, h1, h2, (World.putObj_heap_other (by omega)).trans h3, Lay.own_keep h4 (by simp) fun j hj _ => World.putObj_heap_other ?_, h5⟩
 rcases hj with hj | hj
 ·omega
 ·have := hlt j hj; omega
def ClAx (D z zb : Nat) (x : PgV) (_ : Nat → Prop) (a' : Act) (W : World) : Prop :=
 ∃ Bx, D + 2 < Bx ∧ W.heap[Bx]? = some (.cells (pgCells x.1 x.2.1.1 x.2.1.2.1 x.2.1.2.2 x.2.2.1 x.2.2.2.1 x.2.2.2.2) 84 (0, 0)) ∧
  a' = { tmps := #[.slice none 0 0, .func (.func 126) #[] #[.pointer (some ⟨zb, 0, none⟩)], .pointer (some ⟨z, 0, none⟩), undef, .slice none 0 0, .pointer (some ⟨Bx, 0, none⟩), .func (.func 126) #[] #[.pointer (some ⟨zb, 0, none⟩)],
   .agg (pgCells x.1 x.2.1.1 x.2.1.2.1 x.2.1.2.2 x.2.2.1 x.2.2.2.1 x.2.2.2.2), undef, undef, undef, undef, undef], defers := [] }
theorem cl_app {w wl W : World} {z : Nat} {pre : List PgV} {q : Nat → Prop} (hwz : w.heap.size ≤ z) (hz : z < wl.heap.size) (hI : ClI w wl.heap.size z pre q W) {x : PgV} (hrp : pgRp (fun j => (q j ∧ j ≠ wl.heap.size + 2) ∧ wl.heap.size ≤ j) x W) (hqs : ∀ j, q j → j < W.heap.size) (hlen : wl.heap.size + 2 < W.heap.size) (hpl : pre.length < 10000000) :
  ∃ Ad n cc A' n' c' w', W.heap[z]? = some (.cells #[.slice Ad n cc] 106 (0, 0)) ∧ (Builtin.append_ #[106, 106] 106 #[.slice Ad n cc, .slice (some ⟨W.heap.size, 0, none⟩) 1 1]).run Tryz.prog (W.alloc (.cells (pgCells x.1 x.2.1.1 x.2.1.2.1 x.2.1.2.2 x.2.2.1 x.2.2.2.1 x.2.2.2.2) 84)) = .ok (.slice A' n' c') w' ∧
   w'.heap[z]? = some (.cells #[.slice Ad n cc] 106 (0, 0)) ∧ ((w'.setCell ⟨z, 0, none⟩ (.slice A' n' c')).heap[wl.heap.size + 1]? = W.heap[wl.heap.size + 1]? ∧ (w'.setCell ⟨z, 0, none⟩ (.slice A' n' c')).heap[wl.heap.size]? = W.heap[wl.heap.size]?) ∧ (∀ j, q j → (w'.setCell ⟨z, 0, none⟩ (.slice A' n' c')).heap[j]? = W.heap[j]?) ∧ ClI w wl.heap.size z (pre ++ [x]) q (w'.setCell ⟨z, 0, none⟩ (.slice A' n' c')) := by
 obtain ⟨Ad, n, cc, h1, h2, h3, h4, h5⟩ := hI.v
 obtain ⟨pg, ⟨A7, n7, c7⟩, ⟨A8, n8, c8⟩⟩ := x
 obtain ⟨k1, k2, k3, k4, _⟩ := hrp
 dsimp only at k1 k2 k3 k4
 have hsub : ∀ j, ((q j ∧ j ≠ wl.heap.size + 2) ∧ wl.heap.size ≤ j) → j < W.heap.size → wl.heap.size + 3 ≤ j ∧ (Value.slice Ad n cc).ownBlock ≠ some j := fun j hj _ => by
  have := hI.hq j hj.1.1
  exact ⟨by omega, fun e => h5 j e hj.1.1⟩
 have hlt := Lay.own_lt h4
 obtain ⟨A', c', w', r1, r2, r3, r4, r5, r6⟩ := own_app1 (k := kPg) (Pr := Tryz.prog) (t := 106) Tryz.underlying106 info84 rfl (by decide) (by omega) h4 (by omega) (cs := pgCells pg A7 n7 c7 A8 n8 c8) (T := 84) (x := pg) (kPg_rep.2 ⟨A7, n7, c7, A8, n8, c8, rfl, k1, k2, Lay.row_mono k3 hsub, Lay.row_mono k4 hsub⟩) 1 (by rw [List.length_map]; omega)
 have hw : ∀ j, j < W.heap.size → (Value.slice Ad n cc).ownBlock ≠ some j → j ≠ z → (w'.setCell ⟨z, 0, none⟩ (.slice A' ((pre.map (·.1)).length + 1) c')).heap[j]? = W.heap[j]? := fun j hj ho hz => (heap_setCell_other _ ⟨z, 0, none⟩ j _ hz).trans (r4 j hj ho)
 have hzW := lt_of_block h3
 have hzo : (Value.slice Ad n cc).ownBlock ≠ some z := fun e => by have := hlt z e; omega
 have hz' : w'.heap[z]? = some (.cells #[.slice Ad n cc] 106 (0, 0)) := (r4 z hzW hzo).trans h3
 have hlt' := Lay.own_lt r2
 refine ⟨Ad, n, cc, A', _, c', w', h3, r1, hz', ⟨hw _ (by omega) (fun e => by have := hlt _ e; omega) (by omega), hw _ (by omega) (fun e => by have := hlt _ e; omega) (by omega)⟩, fun j hj => hw j (hqs j hj) (fun e => h5 j e hj) (hI.hq j hj).1, ?_⟩
 refine ⟨Ext.setCell (p := ⟨z, 0, none⟩) (Below.trans hI.x (r3 _ (by have := hI.x.lt; omega))) hwz _, by have := hI.s; simp; omega, hI.hq, A', (pre.map (·.1)).length + 1, c', by simp, ?_, ?_, ?_, fun j hj hq => ?_⟩
 ·obtain ⟨A9, c9, e9, h9, _⟩ := Lay.own_row r2
  obtain ⟨_, e2, e3⟩ := Value.slice.inj e9
  rw [e2, e3]; exact h9
 ·rw [heap_setCell_same _ z 0 _ 106 _ hz']; rfl
 ·rw [List.map_append]
  exact Lay.own_keep r2 (by simp) fun j hj _ => heap_setCell_other _ ⟨z, 0, none⟩ j _ (by
   rcases hj with hj | hj
   ·show j ≠ z; omega
   ·have := hlt' j hj; show j ≠ z; omega)
 ·rcases r6 j hj with h6 | h6
  ·exact h5 j h6 hq
  ·have := hqs j hq; omega
set_option maxHeartbeats 4000000 in
set_option maxRecDepth 100000 in
theorem appseq_any (P : Nat → Prop) (w : World) (b : Bk) (zb : Nat) (A : Option Addr) (N c : Nat) (hb : BkI b) (hB : w.heap[zb]? = some (.cells #[.int .i64 b.ms, .int .i64 b.ht, .slice A N c] 27 (0, 0))) (hr : kSe.row w P A N b.secs) (hL : EnvW w) :
  Calls Tryz.prog 139 #[.slice none 0 0, .func (.func 126) #[] #[.pointer (some ⟨zb, 0, none⟩)]] w (ClPost w b) := by
 refine (callsIn_wide (n := 5)).1 ?_
 refine callsIn_of_wp_marks Tryz.func139 rfl trivial ?_ rfl
 simp only [Tryz.ntmps139, List.size_toArray, List.length_cons, List.length_nil, Nat.reduceAdd, Nat.reduceSub, Array.replicate_succ, Array.replicate_zero, List.push_toArray, List.append_toArray, List.nil_append, List.cons_append]
 refine wpIn_wide.2 ?_
 go_wp2_with fail
 obtain ⟨wl, hwl⟩ : ∃ wl, w.alloc (.cells #[.slice none 0 0] 106) = wl := ⟨_, rfl⟩
 obtain ⟨z, hz⟩ : ∃ z, w.heap.size = z := ⟨_, rfl⟩
 rw [hwl, hz]
 have hsz : wl.heap.size = z + 1 := by rw [← hwl, ← hz]; simp
 have hxl : Ext w wl := by rw [← hwl]; exact (Ext.refl w).alloc _
 have hZ : wl.heap[z]? = some (.cells #[.slice none 0 0] 106 (0, 0)) := by rw [← hwl, ← hz]; exact haA _ _ _ _ rfl
 have hzl := lt_of_block hB
 have HSEQ := all1_seq 4 wl b zb A N c (fun j => j < w.heap.size) hb (fun j hj => by omega) hL.lt4 hzl ((hxl.block _ hzl).trans hB) (Lay.row_ext (Lay.row_mono (Q := fun j => j < w.heap.size) hr fun j _ hl => hl) hxl) (hL.ext hxl)
 have HNP := Hd hb.np
 clear hwl hzl hB hr hL hb
 refine (wpIn_wide (n := 5)).1 ?_
 refine rangeH (n := 5) rfl (by omega) (gf := 126) (lb := #[.pointer (some ⟨zb, 0, none⟩)]) rfl trivial (enters_of Tryz.func126 (by kernel_rfl) rfl) HSEQ (fun x => rfl) (fun _ _ _ _ _ => pgRp_put) (ClI w wl.heap.size z) (fun _ _ _ _ => False) (ClI.ab (by omega) (by omega)) (fun _ _ _ _ _ _ h => h.elim)
  (fun s q W o' h => h.put (by omega) (by omega) (.inl rfl)) (fun cc s q W o' h => h) (fun j hj => by omega) (fun s q W h j hj => (h.hq j hj).2) (fun W hx hs => ⟨hxl.trans hx, by omega, fun j hj => by omega, none, 0, 0, rfl, Nat.le_refl _, (hx.block _ (by omega)).trans hZ, Lay.own_nil _ _ _ _ _, fun j hj => by cases hj⟩)
  (ClAx wl.heap.size z zb) (fun _ _ _ _ _ h => ?ap) (fun q x W W' h hx => pgRp_ext h hx) ?assign ?body ?done ?stop
 case ap =>
  obtain ⟨Bx, h1, h2, h3⟩ := h
  exact ⟨Bx, h1, (World.putObj_heap_other (by omega)).trans h2, h3⟩
 case assign =>
  rintro l ⟨pg, ⟨A7, n7, c7⟩, ⟨A8, n8, c8⟩⟩ q W K hrp hlen hqs hK
  dsimp only [pgEnc]
  gi_wp2
  exact hK _ _ ((Ext.refl W).alloc _) ⟨W.heap.size, by omega, haA _ _ _ _ rfl, rfl⟩
 case body =>
  rintro pre x q a' W hI hrp ⟨Bx, hBx, hB, rfl⟩ hqs hlen hsp
  have hpl : pre.length < 10000000 := by
   have h1 := hsp.length_le
   have h2 := HNP.out
   simp only [List.length_map, List.length_append, List.length_cons, List.length_nil] at h1
   omega
  obtain ⟨Ad, n, cc, A', n', c', w', hz1, hrun, hz2, hfin⟩ := cl_app (by omega) (by omega) hI hrp hqs hlen hpl
  obtain ⟨pg, ⟨A7, n7, c7⟩, ⟨A8, n8, c8⟩⟩ := x
  dsimp only [pgCells] at hB hrun hfin ⊢
  have c0 := cof hB (i := 0) (u := .int .i64 pg.num) rfl
  have c1 := cof hB (i := 1) (u := .int .i64 pg.suf) rfl
  have c2 := cof hB (i := 2) (u := .int .i64 pg.ent) rfl
  have c3 := cof hB (i := 3) (u := .int .i64 pg.ver) rfl
  have c4 := cof hB (i := 4) (u := .slice A7 n7 c7) rfl
  have c5 := cof hB (i := 5) (u := .slice A8 n8 c8) rfl
  have s0 := cof hz1 (i := 0) (u := .slice Ad n cc) rfl
  have s1 := cof hz2 (i := 0) (u := .slice Ad n cc) rfl
  have s2 := fof hz2 0
  have HRUN := Hd hrun
  have HFIN := Hd hfin
  clear hI hrp hqs hB hrun hfin hz1 hz2 HSEQ hsp
  gi_wp2_with (gi_at_builtin; refine wpListIn_append_run (s := .tmp 8) (x := .tmp 10) HRUN.out rfl rfl rfl rfl rfl ?_)
  exact HFIN.out
 case done =>
  intro xs q W hS hI hK
  obtain ⟨Ad, n, cc, hn, hnc, hz1, ho, _⟩ := hI.v
  have s0 := cof hz1 (i := 0) (u := .slice Ad n cc) rfl
  have HI := Hd hI
  have HK := Hd hK
  have HO := Hd ho
  have HS := Hd hS
  have HN := Hd (And.intro hn hnc)
  clear hI hK HSEQ ho hS hn hnc hz1
  gi_wp2
  go_wp2_with fail
  obtain ⟨Z, hZ⟩ : ∃ Z, W.putObj wl.heap.size (.deferred none) = Z := ⟨_, rfl⟩
  have hlt := Lay.own_lt HO.out
  have hxZ : Ext w Z := by rw [← hZ]; exact HI.out.x.putObj (by omega) _
  have hoZ : kPg.own 84 Z (wl.heap.size + 3) (fun j => wl.heap.size + 3 ≤ j) (.slice Ad n cc) (xs.map (·.1)) := by
   rw [← hZ]
   exact Lay.own_keep HO.out (by simp) fun j hj _ => World.putObj_heap_other (by
    rcases hj with hj | hj
    ·omega
    ·have := hlt j hj; omega)
  refine ⟨by simp, .inl ⟨_, _, rfl, run_takeDeferred HK.out, ?_⟩⟩
  rw [hZ]
  refine ⟨.slice Ad n cc, by simp [results, Tryz.results139, go_sem], Ad, n, cc, rfl, HN.out.2, ?_, ?_, hxZ⟩
  ·have h1 := HNP.out
   rw [← HS.out, List.length_map] at h1
   have := HN.out.1
   omega
  ·obtain ⟨A9, c9, e9, _, h9⟩ := Lay.own_row hoZ
   obtain ⟨e1, e2, _⟩ := Value.slice.inj e9
   rw [← e1, ← e2, HS.out] at h9
   exact Lay.row_mono h9 fun j hj _ => by
    rcases hj with hj | hj
    ·omega
    ·have := hlt j hj; omega
 case stop =>
  intro cc pre q W hS hX hK
  exact hX.elim
set_option maxHeartbeats 4000000 in
set_option maxRecDepth 100000 in
theorem collect_any (P : Nat → Prop) (w : World) (b : Bk) (zb : Nat) (A : Option Addr) (N c : Nat) (hb : BkI b) (hB : w.heap[zb]? = some (.cells #[.int .i64 b.ms, .int .i64 b.ht, .slice A N c] 27 (0, 0))) (hr : kSe.row w P A N b.secs) (hL : EnvW w) :
  Calls Tryz.prog 109 #[.func (.func 126) #[] #[.pointer (some ⟨zb, 0, none⟩)]] w (ClPost w b) := by
 have HA := Hd (appseq_any P w b zb A N c hb hB hr hL)
 clear hb hB hr hL
 go_enter Tryz.func109, Tryz.ntmps109
 go_wp2_with (first | (go_at_call 139; refine (HA.out).mono ?_; rintro e w1 ⟨A1, n1, c1, rfl, h1⟩))
 go_ret
 exact ⟨A1, n1, c1, rfl, h1⟩
set_option maxHeartbeats 4000000 in
set_option maxRecDepth 100000 in
theorem pages_any (P : Nat → Prop) (w : World) (b : Bk) (A : Option Addr) (N c : Nat) (hb : BkI b) (hr : kSe.row w P A N b.secs) (hL : EnvW w) :
  Calls Tryz.prog 55 #[.agg #[.int .i64 b.ms, .int .i64 b.ht, .slice A N c]] w (ClPost w b) := by
 obtain ⟨W0, hW0⟩ : ∃ W0, w.alloc (.cells #[.int .i64 b.ms, .int .i64 b.ht, .slice A N c] 27) = W0 := ⟨_, rfl⟩
 have hx0 : Ext w W0 := by rw [← hW0]; exact (Ext.refl w).alloc _
 have hx1 : Ext w (W0.alloc (.cells #[.int .i64 b.ms, .int .i64 b.ht, .slice A N c] 27)) := hx0.alloc _
 have HA := Hd (collect_any P (W0.alloc (.cells #[.int .i64 b.ms, .int .i64 b.ht, .slice A N c] 27)) b W0.heap.size A N c hb (haA _ _ _ _ rfl) (Lay.row_ext hr hx1) (hL.ext hx1))
 have a0 : W0.cell? ⟨w.heap.size, 0, none⟩ = some (.int .i64 b.ms) := by rw [← hW0]; exact cof (haA w _ _ _ rfl) (i := 0) rfl
 have a1 : W0.cell? ⟨w.heap.size, 1, none⟩ = some (.int .i64 b.ht) := by rw [← hW0]; exact cof (haA w _ _ _ rfl) (i := 1) rfl
 have a2 : W0.cell? ⟨w.heap.size, 2, none⟩ = some (.slice A N c) := by rw [← hW0]; exact cof (haA w _ _ _ rfl) (i := 2) rfl
 have HX1 := Hd hx1
 clear hb hr hL hx0 hx1
 go_enter Tryz.func55, Tryz.ntmps55
 go_upto_region 1 with (fail)
 clear hW0
 go_wp2_with (first | (go_at_call 73; refine (all_any _ _ _ _ _ _).mono ?_; rintro e w' ⟨rfl, rfl⟩) | (go_at_call 109; refine (HA.out).mono ?_; rintro e w1 ⟨A1, n1, c1, rfl, h1, h2, h3, h4⟩))
 go_ret
 exact ⟨A1, n1, c1, rfl, h1, h2, Lay.row_mono h3 fun j hj _ => Nat.le_trans HX1.out.lt hj, HX1.out.trans h4⟩
end
end Go.Proofs.YtdbnddmncbjobaaGreatDoor