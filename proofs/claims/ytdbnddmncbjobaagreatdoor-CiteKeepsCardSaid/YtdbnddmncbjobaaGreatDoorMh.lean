/- A range over a function whose loop variable is laid in a block by the assignment. -/
import Derived.Test.YtdbnddmncbjobaaGreatDoorMg
import Derived.Shelf.Abstract
import Derived.WalkKit
import Derived.Shelf.RegionOpen
import Derived.OwnWalkIn
import Derived.LoopNIn
import Derived.LoopIn
import Derived.Test.YtdbnddmncbjobaaGreatDoorMc
import Derived.Deep.RegionHeld3
import Derived.Deep.RegionLaw
namespace Go.Proofs.YtdbnddmncbjobaaGreatDoor
open Go Go.RowKit

theorem rangeH {α : Type} {F : Fence} {n : Nat} {P : Program} {g : Operand} {ps : Array Tmp} {assign body : Code} {Q : Exit → Act → World → Prop} {a : Act} {w : World}
    (hro : F.round = none) (h1 : 1 ≤ n) {gf : Nat} {lb : Array Value} (hg : a.eval g = .func (.func gf) #[] lb) (hFg : F.fn gf) (eg : ∀ args w, (callFunc gf args).run P w = .ok (.enter gf args) w)
    {encs : α → Array Value} {Rp : (Nat → Prop) → α → World → Prop} {S Sp : List α → Prop} {Q0 : Nat → Prop} (hseq : RSeq F (n - 1) P gf lb encs Rp S Sp Q0 w) (hps : ∀ x, (encs x).size = ps.size)
    (hRp : ∀ q x W l o', Rp q x W → (∀ j, q j → j ≠ l) → Rp q x (W.putObj l o'))
    (I : List α → (Nat → Prop) → World → Prop) (Ix : Code → List α → (Nat → Prop) → World → Prop) (hI : AbMv (w.heap.size + 2) I) (hIx : ∀ c, AbMv (w.heap.size + 2) (Ix c))
    (hIp : ∀ s q W o', I s q W → I s q (W.putObj (w.heap.size + 1) o')) (hIxp : ∀ c s q W o', Ix c s q W → Ix c s q (W.putObj (w.heap.size + 1) o'))
    (_hQ0 : ∀ j, Q0 j → j < w.heap.size) (hIQ : ∀ s q W, I s q W → ∀ j, q j → j ≠ w.heap.size ∧ j ≠ w.heap.size + 1)
    (h0 : ∀ W, Ext w W → W.heap.size = w.heap.size + 2 → I [] Q0 W) (Ax : α → (Nat → Prop) → Act → World → Prop) (hAp : ∀ x q a' W o', Ax x q a' W → Ax x q a' (W.putObj (w.heap.size + 1) o')) (hRx : ∀ q x W W', Rp q x W → Ext W W' → Rp q x W')
    (hassign : ∀ (l : Nat) (x : α) (q : Nat → Prop) (W : World) (K : Act → World → Prop), Rp q x W → w.heap.size + 2 < W.heap.size → (∀ j, q j → j < W.heap.size) → (∀ a' W', Ext W W' → Ax x q a' W' → K a' W') →
      assign.wpIn (F.inRound l) (n - 1 - 1) P (Exit.then K (fun _ _ _ => False)) { tmps := (ps.zip (encs x)).foldl (fun t (p, v) => t.setIfInBounds p v) a.tmps, defers := [] } W)
    (hbody : ∀ (pre : List α) (x : α) (q : Nat → Prop) (a' : Act) (W : World), I pre q W → Rp (fun j => (q j ∧ j ≠ w.heap.size + 2) ∧ w.heap.size ≤ j) x W → Ax x (fun j => (q j ∧ j ≠ w.heap.size + 2) ∧ w.heap.size ≤ j) a' W → (∀ j, q j → j < W.heap.size) → w.heap.size + 2 < W.heap.size → Sp (pre ++ [x]) → body.wpIn (F.inRound (w.heap.size + 1)) (n - 1 - 1) P (rgPost (w.heap.size + 1) w.heap.size q I Ix (pre ++ [x]) W) a' W)
    (hdone : ∀ (xs : List α) (q : Nat → Prop) (W : World), S xs → I xs q W → W.heap[w.heap.size]? = some (.deferred (some [])) → Q .normal { a with defers := { target := .collected w.heap.size, args := #[] } :: a.defers } W)
    (hstop : ∀ (c : Code) (pre : List α) (q : Nat → Prop) (W : World), Sp pre → Ix c pre q W → W.heap[w.heap.size]? = some (.deferred (some [])) → c.wpIn F n P Q { a with defers := { target := .collected w.heap.size, args := #[] } :: a.defers } W) :
    (Code.rangeFunc g ps assign body).wpIn F n P Q a w := by
  refine wpIn_rangeFunc ?_
  intro fn hfn
  rw [hro]
  obtain ⟨rec, hrec⟩ : ∃ rec : LoopState → Option Code → Loop, rec = fun st pe => { state := st, pending := pe, fn, tmps := a.tmps, params := ps, assign, body, defers := w.heap.size } := ⟨_, rfl⟩
  obtain ⟨W1, hW1⟩ : ∃ W1, (w.alloc (.deferred (some []))).alloc (.loop (rec .ready none)) = W1 := ⟨_, rfl⟩
  have hx1 : Ext w W1 := by rw [← hW1]; exact ((Ext.refl w).alloc _).alloc _
  have hs1 : W1.heap.size = w.heap.size + 2 := by rw [← hW1]; simp
  have hL1 : W1.heap[w.heap.size + 1]? = some (.loop (rec .ready none)) := by
    rw [← hW1]; have := World.alloc_heap_new (w.alloc (.deferred (some []))) (.loop (rec .ready none)); rwa [World.size_alloc] at this
  have hK1 : W1.heap[w.heap.size]? = some (.deferred (some [])) := by
    rw [← hW1]; exact (Below.heap_alloc _ _ _ (by simp)).trans (World.alloc_heap_new w _)
  refine ⟨w.heap.size + 1, [{ target := .collected w.heap.size, args := #[] }], W1, { target := .fn (.func gf) lb, args := #[.func (.yield (w.heap.size + 1)) #[] #[]] }, W1, gf,
    #[.func (.yield (w.heap.size + 1)) #[] #[]] ++ lb, W1, ?_, ?_, ?_, ?_, fun _ => h1, ?_⟩
  · rw [← hW1, hrec]; exact run_enterLoop_outer _ _ _ _ _
  · simp only [resolve, hg]
    simp [go_sem]
  · intro f' hf'; simp [Target.leads] at hf'; subst hf'; exact hFg
  · simp [invoke, go_sem, eg]
  · have hne : ∀ {A B : World} {k : Nat} {o : Obj}, k < w.heap.size + 2 → Mv W1.heap.size A B → A.heap[k]? = some o → B.heap[k]? = some o := fun hk hm ho => hm.blk (by omega) ho
    refine (hseq (w.heap.size + 1)
      (fun pre q W => I pre q W ∧ W.heap[w.heap.size + 1]? = some (.loop (rec .ready none)) ∧ W.heap[w.heap.size]? = some (.deferred (some [])))
      (fun pre q W => ∃ c, Ix c pre q W ∧ W.heap[w.heap.size + 1]? = some (.loop (rec .done (some c))) ∧ W.heap[w.heap.size]? = some (.deferred (some [])))
      W1 hx1.lt (fun j hj => hx1.block j hj) hx1
      (fun s q q' A B hs hm hq => ⟨hI s q q' A B hs.1 (by rw [← hs1]; exact hm) (by rw [← hs1]; exact hq), hne (by omega) hm hs.2.1, hne (by omega) hm hs.2.2⟩)
      (fun s q q' A B hs hm hq => by
        obtain ⟨c, hc, hl, hk⟩ := hs
        exact ⟨c, hIx c s q q' A B hc (by rw [← hs1]; exact hm) (by rw [← hs1]; exact hq), hne (by omega) hm hl, hne (by omega) hm hk⟩)
      ?_ ⟨h0 W1 hx1 hs1, hL1, hK1⟩).mono ?_
    · rintro pre x q W ⟨hi, hl, hk⟩ hrp hqs hlen hsp
      have hlt : w.heap.size + 1 < W.heap.size := (Array.getElem?_eq_some_iff.1 hl).1
      have hq1 := hIQ _ _ _ hi
      have hy := run_yield (P := P) (args := encs x) hl (by rw [hrec]; exact hps x)
      rw [hrec] at hy
      refine ⟨fn, _, assign, body, hy, roundIn_of_wpIn hfn (hassign _ x (fun j => (q j ∧ j ≠ w.heap.size + 2) ∧ w.heap.size ≤ j) W _ (by rw [← hs1]; exact hrp) (by rw [← hs1]; exact hlen) (fun j hj => hqs j hj.1.1) fun a' W' hx hax => ?_)⟩
      have hl' : W'.heap[w.heap.size + 1]? = some (.loop (rec .ready none)) := (hx.block _ hlt).trans hl
      have hk' : W'.heap[w.heap.size]? = some (.deferred (some [])) := (hx.block _ (by omega)).trans hk
      have hlt' : w.heap.size + 1 < W'.heap.size := Nat.lt_of_lt_of_le hlt hx.lt
      refine ⟨_, run_beginRound hl' (by rw [hrec]), ?_⟩
      obtain ⟨W2, hW2⟩ : ∃ W2, W2 = W'.putObj (w.heap.size + 1) (.loop { rec .ready none with state := .busy }) := ⟨_, rfl⟩
      rw [← hW2]
      have hl2 : W2.heap[w.heap.size + 1]? = some (.loop { rec .ready none with state := .busy }) := by rw [hW2]; exact World.putObj_heap_same hlt'
      have hk2 : W2.heap[w.heap.size]? = some (.deferred (some [])) := by rw [hW2]; exact (World.putObj_heap_other (by omega)).trans hk'
      have hq2 : ∀ j, q j → W2.heap[j]? = W.heap[j]? := fun j hj => by rw [hW2]; exact (World.putObj_heap_other (hq1 j hj).2).trans (hx.block j (hqs j hj))
      have hsz2 : W2.heap.size = W'.heap.size := by rw [hW2]; simp
      have hi' : I pre q W' := hI _ _ _ _ _ hi (Mv.of_ext hx) fun j hj => .inl hj
      refine wpIn_mono (hbody pre x q a' W2 (by rw [hW2]; exact hIp _ _ _ _ hi') (by rw [hW2]; exact hRp _ _ _ _ _ (hRx _ _ _ _ (by rw [← hs1]; exact hrp) hx) fun j hj => (hq1 j hj.1.1).2) (by rw [hW2]; exact hAp _ _ _ _ _ hax) (fun j hj => by rw [hsz2]; exact Nat.lt_of_lt_of_le (hqs j hj) hx.lt) (by rw [hsz2, ← hs1]; exact Nat.lt_of_lt_of_le hlen hx.lt) hsp) ?_
      have fin : ∀ (jump : Option Code) (W3 : World), W3.heap[w.heap.size + 1]? = W2.heap[w.heap.size + 1]? → W3.heap[w.heap.size]? = W2.heap[w.heap.size]? →
          (Instr.endRound (w.heap.size + 1) jump).run P W3 = .ok (.bool jump.isNone) (W3.putObj (w.heap.size + 1) (.loop (rec (if jump.isNone then .ready else .done) jump))) ∧
          (W3.putObj (w.heap.size + 1) (.loop (rec (if jump.isNone then .ready else .done) jump))).heap[w.heap.size + 1]? = some (.loop (rec (if jump.isNone then .ready else .done) jump)) ∧
          (W3.putObj (w.heap.size + 1) (.loop (rec (if jump.isNone then .ready else .done) jump))).heap[w.heap.size]? = some (.deferred (some [])) := fun jump W3 e1 e2 => by
        have hl3 := e1.trans hl2
        have := run_endRound (P := P) jump hl3
        rw [hrec] at this ⊢
        exact ⟨this, World.putObj_heap_same (Array.getElem?_eq_some_iff.1 hl3).1, (World.putObj_heap_other (by omega)).trans (e2.trans hk2)⟩
      rintro e a3 W3 hp
      cases e with
      | normal =>
        obtain ⟨⟨hk3, hd3⟩, hq3, hi3⟩ := hp
        obtain ⟨hr, hl4, hk4⟩ := fin none W3 hk3 hd3
        exact ⟨_, _, hr, .inl ⟨rfl, ⟨hIp _ _ _ _ hi3, hl4, hk4⟩, fun j hj => (World.putObj_heap_other (hq1 j hj).2).trans ((hq3 j hj).trans (hq2 j hj))⟩⟩
      | ret =>
        obtain ⟨⟨hk3, hd3⟩, hi3⟩ := hp
        obtain ⟨hr, hl4, hk4⟩ := fin (some .ret) W3 hk3 hd3
        exact ⟨_, _, hr, .inr ⟨rfl, .ret, hIxp _ _ _ _ _ hi3, hl4, hk4⟩⟩
      | exit id =>
        obtain ⟨⟨hk3, hd3⟩, hi3⟩ := hp
        obtain ⟨hr, hl4, hk4⟩ := fin (some (.exit id)) W3 hk3 hd3
        exact ⟨_, _, hr, .inr ⟨rfl, .exit id, hIxp _ _ _ _ _ hi3, hl4, hk4⟩⟩
      | goto t =>
        obtain ⟨⟨hk3, hd3⟩, hi3⟩ := hp
        obtain ⟨hr, hl4, hk4⟩ := fin (some (.goto t)) W3 hk3 hd3
        exact ⟨_, _, hr, .inr ⟨rfl, .goto t, hIxp _ _ _ _ _ hi3, hl4, hk4⟩⟩
      | panic ch => exact hp.elim
      | outgrown => exact hp.elim
    · rintro e W2 ⟨⟨v, rfl⟩, (⟨xs, q, hS, hi, hl, hk⟩ | ⟨pre, q, hSp, c, hi, hl, hk⟩)⟩
      · exact ⟨none, _, by have := run_endLoop (P := P) hl (by rw [hrec]; simp); rw [hrec] at this; exact this, hdone xs q _ hS (hIp _ _ _ _ hi) ((World.putObj_heap_other (by omega)).trans hk)⟩
      · exact ⟨some c, _, by have := run_endLoop (P := P) hl (by rw [hrec]; simp); rw [hrec] at this; exact this, hstop c pre q _ hSp (hIxp _ _ _ _ _ hi) ((World.putObj_heap_other (by omega)).trans hk)⟩
end Go.Proofs.YtdbnddmncbjobaaGreatDoor

/- book.Page: walked. -/
namespace Go.Proofs.YtdbnddmncbjobaaGreatDoor
open Go Go.RowKit Go.Shelf
attribute [local go_sem] Oper.semAt_some

theorem Ext.putObj {a W : World} (h : Ext a W) {k : Nat} (hk : a.heap.size ≤ k) (o : Obj) : Ext a (W.putObj k o) :=
  ⟨h.os, h.tape, h.output, by simpa using h.size, fun j hj => (World.putObj_heap_other (by omega)).trans (h.block j hj)⟩
theorem EnvW.lt4 {w : World} (h : EnvW w) : 4 < w.heap.size := by
  have h1 := h w (Ext.refl w)
  have hg : Tryz.prog.globalNamed "rollbook/glyph.widths" = some 4 := by kernel_rfl
  unfold World.var? at h1
  rw [hg] at h1
  simp only [Option.bind_some] at h1
  rcases Nat.lt_or_ge 4 w.heap.size with h9 | h9
  · exact h9
  · rw [Array.getElem?_eq_none h9] at h1
    exact absurd h1 (by simp)
def PagePost (w : World) (b : Bk) (num suf : Int) (e : Ending) (w' : World) : Prop :=
  (pageP b num suf = none ∧ e = .returned (.tuple #[.agg #[.int .i64 0, .int .i64 0, .int .i64 0, .int .i64 0, .slice none 0 0, .slice none 0 0], .bool false]) ∧ Ext w w') ∨
  ∃ (p : Pg) (A7 : Option Addr) (n7 c7 : Nat) (A8 : Option Addr) (n8 c8 : Nat), pageP b num suf = some p ∧ e = .returned (.tuple #[.agg #[.int .i64 p.num, .int .i64 p.suf, .int .i64 p.ent, .int .i64 p.ver, .slice A7 n7 c7, .slice A8 n8 c8], .bool true]) ∧
    n7 ≤ c7 ∧ n8 ≤ c8 ∧ kLn.row w' (fun j => w.heap.size ≤ j) A7 n7 p.body ∧ kLn.row w' (fun j => w.heap.size ≤ j) A8 n8 p.nts ∧ Ext w w'
theorem heap_alloc_old (W : World) (o : Obj) (j : Nat) (h : j < W.heap.size) : (W.alloc o).heap[j]? = W.heap[j]? := Below.heap_alloc _ _ _ h
theorem heap_alloc_at (W : World) (cs : Array Value) (t : TypeId) (j : Nat) (h : j = W.heap.size) : (W.alloc (.cells cs t)).heap[j]? = some (.cells cs t (0, 0)) := by subst h; exact heap_alloc_new _ _
theorem pgRp_ext {q : Nat → Prop} {x : PgV} {W W' : World} (h : pgRp q x W) (hx : Ext W W') : pgRp q x W' := ⟨h.1, h.2.1, Lay.row_ext h.2.2.1 hx, Lay.row_ext h.2.2.2.1 hx, h.2.2.2.2⟩
theorem pgRp_put {q : Nat → Prop} {x : PgV} {W : World} {l : Nat} {o : Obj} (h : pgRp q x W) (hq : ∀ j, q j → j ≠ l) : pgRp q x (W.putObj l o) :=
  ⟨h.1, h.2.1, Lay.row_keep h.2.2.1 (by simp) fun j hj _ => World.putObj_heap_other (hq j hj), Lay.row_keep h.2.2.2.1 (by simp) fun j hj _ => World.putObj_heap_other (hq j hj), h.2.2.2.2⟩
def pgCells (p : Pg) (A7 : Option Addr) (n7 c7 : Nat) (A8 : Option Addr) (n8 c8 : Nat) : Array Value := #[.int .i64 p.num, .int .i64 p.suf, .int .i64 p.ent, .int .i64 p.ver, .slice A7 n7 c7, .slice A8 n8 c8]
def lbIs (num suf : Int) (p : Pg) : Bool := decide (p.num = num ∧ p.suf = suf)
/-- Between two rounds: no page has had the label. -/
structure PgI (w : World) (num suf : Int) (pre : List PgV) (q : Nat → Prop) (W : World) : Prop where
  x : Ext w W
  s : w.heap.size + 7 ≤ W.heap.size
  q : ∀ j, q j → j < w.heap.size ∨ j = w.heap.size + 4 ∨ w.heap.size + 7 ≤ j
  l : W.heap[w.heap.size + 1]? = some (.cells #[.int .i64 num, .int .i64 suf] 64 (0, 0))
  r : W.heap[w.heap.size + 2]? = some (.cells (pgCells ⟨0, 0, 0, 0, [], []⟩ none 0 0 none 0 0) 84 (0, 0))
  b : W.heap[w.heap.size + 3]? = some (.cells #[.bool false] 4 (0, 0))
  n : (pre.map (·.1)).find? (lbIs num suf) = none
/-- A page has had it. -/
structure PgX (w : World) (num suf : Int) (c : Code) (pre : List PgV) (q : Nat → Prop) (W : World) : Prop where
  c : c = .ret
  x : Ext w W
  s : w.heap.size + 8 ≤ W.heap.size
  p : ∃ (p : Pg) (A7 : Option Addr) (n7 c7 : Nat) (A8 : Option Addr) (n8 c8 : Nat), (pre.map (·.1)).find? (lbIs num suf) = some p ∧ n7 ≤ c7 ∧ n8 ≤ c8 ∧
    kLn.row W (fun j => w.heap.size + 8 ≤ j) A7 n7 p.body ∧ kLn.row W (fun j => w.heap.size + 8 ≤ j) A8 n8 p.nts ∧
    W.heap[w.heap.size + 2]? = some (.cells (pgCells p A7 n7 c7 A8 n8 c8) 84 (0, 0))
  b : W.heap[w.heap.size + 3]? = some (.cells #[.bool true] 4 (0, 0))
theorem PgI.ab {w wl : World} {num suf : Int} (hs : wl.heap.size = w.heap.size + 5) : AbMv (wl.heap.size + 2) (PgI w num suf) := by
  intro s Q Q' A B h hm hg
  have hsz := h.s
  refine ⟨hm.ext w (by omega) h.x, Nat.le_trans h.s hm.size, fun j hj => ?_, hm.blk (by omega) h.l, hm.blk (by omega) h.r, hm.blk (by omega) h.b, h.n⟩
  rcases hg j hj with h1 | h1 | h1
  · exact h.q j h1
  · omega
  · omega
theorem PgI.put {w wl : World} {num suf : Int} (hs : wl.heap.size = w.heap.size + 5) {s : List PgV} {q : Nat → Prop} {W : World} {o : Obj} (h : PgI w num suf s q W) : PgI w num suf s q (W.putObj (wl.heap.size + 1) o) :=
  ⟨h.x.putObj (by omega) o, by simpa using h.s, h.q, (World.putObj_heap_other (by omega)).trans h.l, (World.putObj_heap_other (by omega)).trans h.r, (World.putObj_heap_other (by omega)).trans h.b, h.n⟩
theorem PgX.ab {w wl : World} {num suf : Int} (hs : wl.heap.size = w.heap.size + 5) (c : Code) : AbMv (wl.heap.size + 2) (PgX w num suf c) := by
  intro s Q Q' A B h hm hg
  obtain ⟨p, A7, n7, c7, A8, n8, c8, h1, h2, h3, h4, h5, h6⟩ := h.p
  have hsz := h.s
  exact ⟨h.c, hm.ext w (by omega) h.x, Nat.le_trans h.s hm.size, ⟨p, A7, n7, c7, A8, n8, c8, h1, h2, h3, Lay.row_keep h4 hm.size fun j hj hl => hm.keep j (by omega) hl, Lay.row_keep h5 hm.size fun j hj hl => hm.keep j (by omega) hl, hm.blk (by omega) h6⟩, hm.blk (by omega) h.b⟩
theorem PgX.put {w wl : World} {num suf : Int} (hs : wl.heap.size = w.heap.size + 5) {c : Code} {s : List PgV} {q : Nat → Prop} {W : World} {k : Nat} {o : Obj} (hk : k = wl.heap.size + 1 ∨ k = wl.heap.size) (h : PgX w num suf c s q W) : PgX w num suf c s q (W.putObj k o) := by
  obtain ⟨p, A7, n7, c7, A8, n8, c8, h1, h2, h3, h4, h5, h6⟩ := h.p
  exact ⟨h.c, h.x.putObj (by omega) o, by simpa using h.s, ⟨p, A7, n7, c7, A8, n8, c8, h1, h2, h3, Lay.row_keep h4 (by simp) fun j hj hl => World.putObj_heap_other (by omega), Lay.row_keep h5 (by simp) fun j hj hl => World.putObj_heap_other (by omega), (World.putObj_heap_other (by omega)).trans h6⟩, (World.putObj_heap_other (by omega)).trans h.b⟩
def PgAx (w : World) (z1 z2 z3 z4 : Nat) (b : Bk) (num suf : Int) (A : Option Addr) (N c : Nat) (x : PgV) (_ : Nat → Prop) (a' : Act) (W : World) : Prop :=
  ∃ Bx, w.heap.size + 7 < Bx ∧ W.heap[Bx]? = some (.cells (pgCells x.1 x.2.1.1 x.2.1.2.1 x.2.1.2.2 x.2.2.1 x.2.2.2.1 x.2.2.2.2) 84 (0, 0)) ∧
    a' = { tmps := #[.agg #[.int .i64 b.ms, .int .i64 b.ht, .slice A N c], .agg #[.int .i64 num, .int .i64 suf], .pointer (some ⟨w.heap.size, 0, none⟩), .pointer (some ⟨z1, 0, none⟩), .pointer (some ⟨z2, 0, none⟩), .pointer (some ⟨z3, 0, none⟩), .pointer (some ⟨Bx, 0, none⟩),
      .agg #[.int .i64 b.ms, .int .i64 b.ht, .slice A N c], .func (.func 126) #[] #[.pointer (some ⟨z4, 0, none⟩)], .agg (pgCells x.1 x.2.1.1 x.2.1.2.1 x.2.1.2.2 x.2.2.1 x.2.2.2.1 x.2.2.2.2), undef, undef, undef, undef, undef, undef], defers := [] }
/-- A page and a bool are stored. -/
structure St6 (W Y : World) (z2 z3 : Nat) (cs : Array Value) (u : Value) : Prop where
  size : Y.heap.size = W.heap.size
  keep : ∀ j, j ≠ z2 → j ≠ z3 → Y.heap[j]? = W.heap[j]?
  ext : ∀ a : World, a.heap.size ≤ z2 → a.heap.size ≤ z3 → Ext a W → Ext a Y
  h2 : Y.heap[z2]? = some (.cells cs 84 (0, 0))
  h3 : Y.heap[z3]? = some (.cells #[u] 4 (0, 0))
theorem st6 {W : World} {z2 z3 : Nat} (hne : z2 ≠ z3) {a0 a1 a2 a3 a4 a5 x : Value} (h2 : W.heap[z2]? = some (.cells #[a0, a1, a2, a3, a4, a5] 84 (0, 0))) (h3 : W.heap[z3]? = some (.cells #[x] 4 (0, 0))) (v0 v1 v2 v3 v4 v5 u : Value) :
    St6 W (((((((W.setCell ⟨z2, 0, none⟩ v0).setCell ⟨z2, 1, none⟩ v1).setCell ⟨z2, 2, none⟩ v2).setCell ⟨z2, 3, none⟩ v3).setCell ⟨z2, 4, none⟩ v4).setCell ⟨z2, 5, none⟩ v5).setCell ⟨z3, 0, none⟩ u) z2 z3 #[v0, v1, v2, v3, v4, v5] u := by
  refine ⟨by simp, fun j k2 k3 => ?_, fun a l2 l3 hx => ?_, ?_, ?_⟩
  · rw [heap_setCell_other _ ⟨z3, 0, none⟩ j _ k3, heap_setCell_other _ ⟨z2, 5, none⟩ j _ k2, heap_setCell_other _ ⟨z2, 4, none⟩ j _ k2, heap_setCell_other _ ⟨z2, 3, none⟩ j _ k2, heap_setCell_other _ ⟨z2, 2, none⟩ j _ k2, heap_setCell_other _ ⟨z2, 1, none⟩ j _ k2, heap_setCell_other _ ⟨z2, 0, none⟩ j _ k2]
  · exact (((((((hx.setCell (p := ⟨z2, 0, none⟩) l2 _).setCell (p := ⟨z2, 1, none⟩) l2 _).setCell (p := ⟨z2, 2, none⟩) l2 _).setCell (p := ⟨z2, 3, none⟩) l2 _).setCell (p := ⟨z2, 4, none⟩) l2 _).setCell (p := ⟨z2, 5, none⟩) l2 _).setCell (p := ⟨z3, 0, none⟩) l3 _)
  · rw [heap_setCell_other _ ⟨z3, 0, none⟩ z2 _ hne]
    exact heap_setCell_same _ z2 5 _ 84 _ (heap_setCell_same _ z2 4 _ 84 _ (heap_setCell_same _ z2 3 _ 84 _ (heap_setCell_same _ z2 2 _ 84 _ (heap_setCell_same _ z2 1 _ 84 _ (heap_setCell_same _ z2 0 _ 84 _ h2)))))
  · have h9 : ((((((W.setCell ⟨z2, 0, none⟩ v0).setCell ⟨z2, 1, none⟩ v1).setCell ⟨z2, 2, none⟩ v2).setCell ⟨z2, 3, none⟩ v3).setCell ⟨z2, 4, none⟩ v4).setCell ⟨z2, 5, none⟩ v5).heap[z3]? = some (.cells #[x] 4 (0, 0)) := by
      rw [heap_setCell_other _ ⟨z2, 5, none⟩ z3 _ hne.symm, heap_setCell_other _ ⟨z2, 4, none⟩ z3 _ hne.symm, heap_setCell_other _ ⟨z2, 3, none⟩ z3 _ hne.symm, heap_setCell_other _ ⟨z2, 2, none⟩ z3 _ hne.symm, heap_setCell_other _ ⟨z2, 1, none⟩ z3 _ hne.symm, heap_setCell_other _ ⟨z2, 0, none⟩ z3 _ hne.symm]
      exact h3
    exact heap_setCell_same _ z3 0 _ 4 u h9
theorem find_snoc {p : PgV → Pg} {xs : List PgV} {f : Pg → Bool} (h : (xs.map p).find? f = none) (y : PgV) : ((xs ++ [y]).map p).find? f = if f (p y) = true then some (p y) else none := by
  rw [List.map_append, List.find?_append, h]
  simp only [List.map_cons, List.map_nil, List.find?_cons, List.find?_nil, Option.none_or]
  split <;> simp_all
set_option maxHeartbeats 4000000 in
set_option maxRecDepth 100000 in
theorem page_any (P : Nat → Prop) (w : World) (b : Bk) (num suf : Int) (A : Option Addr) (N c : Nat) (hb : BkI b) (hr : kSe.row w P A N b.secs) (hL : EnvW w) :
    Calls Tryz.prog 91 #[.agg #[.int .i64 b.ms, .int .i64 b.ht, .slice A N c], .agg #[.int .i64 num, .int .i64 suf]] w (PagePost w b num suf) := by
  refine (callsIn_wide (n := 5)).1 ?_
  refine callsIn_of_wp_marks Tryz.func91 rfl trivial ?_ rfl
  simp only [Tryz.ntmps91, List.size_toArray, List.length_cons, List.length_nil, Nat.reduceAdd, Nat.reduceSub, Array.replicate_succ, Array.replicate_zero, List.push_toArray, List.append_toArray, List.nil_append, List.cons_append]
  refine wpIn_wide.2 ?_
  go_wp2_with (first | (go_at_call 73; refine (all_any _ _ _ _ _ _).mono ?_; rintro e w' ⟨rfl, rfl⟩))
  obtain ⟨wl, hwl⟩ : ∃ wl, (((((w.alloc (Obj.cells #[Value.int IntKind.i64 b.ms, Value.int IntKind.i64 b.ht, Value.slice A N c] 27)).alloc (Obj.cells #[Value.int IntKind.i64 num, Value.int IntKind.i64 suf] 64)).alloc
              (Obj.cells #[Value.int IntKind.i64 0, Value.int IntKind.i64 0, Value.int IntKind.i64 0, Value.int IntKind.i64 0, Value.slice none 0 0, Value.slice none 0 0] 84)).alloc (Obj.cells #[Value.bool false] 4)).alloc
      (Obj.cells #[Value.int IntKind.i64 b.ms, Value.int IntKind.i64 b.ht, Value.slice A N c] 27)) = wl := ⟨_, rfl⟩
  obtain ⟨z4, hz4⟩ : ∃ z, w.heap.size + 1 + 1 + 1 + 1 = z := ⟨_, rfl⟩
  obtain ⟨z3, hz3⟩ : ∃ z, w.heap.size + 1 + 1 + 1 = z := ⟨_, rfl⟩
  obtain ⟨z2, hz2⟩ : ∃ z, w.heap.size + 1 + 1 = z := ⟨_, rfl⟩
  obtain ⟨z1, hz1⟩ : ∃ z, w.heap.size + 1 = z := ⟨_, rfl⟩
  rw [hwl, hz4, hz3, hz2, hz1]
  have hsz : wl.heap.size = w.heap.size + 5 := by rw [← hwl]; simp
  have hxl : Ext w wl := by rw [← hwl]; exact (((((Ext.refl w).alloc _).alloc _).alloc _).alloc _).alloc _
  have hB4 : wl.heap[w.heap.size + 4]? = some (.cells #[.int .i64 b.ms, .int .i64 b.ht, .slice A N c] 27 (0, 0)) := by rw [← hwl]; exact heap_alloc_at _ _ _ _ (by simp)
  have hB3 : wl.heap[w.heap.size + 3]? = some (.cells #[.bool false] 4 (0, 0)) := by rw [← hwl, heap_alloc_old _ _ _ (by simp)]; exact heap_alloc_at _ _ _ _ (by simp)
  have hB2 : wl.heap[w.heap.size + 2]? = some (.cells (pgCells ⟨0, 0, 0, 0, [], []⟩ none 0 0 none 0 0) 84 (0, 0)) := by rw [← hwl, heap_alloc_old _ _ _ (by simp), heap_alloc_old _ _ _ (by simp)]; exact heap_alloc_at _ _ _ _ (by simp)
  have hB1 : wl.heap[w.heap.size + 1]? = some (.cells #[.int .i64 num, .int .i64 suf] 64 (0, 0)) := by rw [← hwl, heap_alloc_old _ _ _ (by simp), heap_alloc_old _ _ _ (by simp), heap_alloc_old _ _ _ (by simp)]; exact heap_alloc_at _ _ _ _ (by simp)
  have HSEQ := all1_seq 4 wl b z4 A N c (fun j => j < w.heap.size ∨ j = z4) hb (fun j hj => by omega) (.inl hL.lt4) (.inr rfl) (by rw [← hz4]; exact hB4) (Lay.row_mono (Lay.row_ext (Lay.row_mono (Q := fun j => j < w.heap.size) hr fun j _ hl => hl) hxl) fun j hj _ => .inl hj) (hL.ext hxl)
  have HZ := Lib.hid (show z1 = w.heap.size + 1 ∧ z2 = w.heap.size + 2 ∧ z3 = w.heap.size + 3 ∧ z4 = w.heap.size + 4 by omega)
  clear hwl hz1 hz2 hz3 hz4
  refine (wpIn_wide (n := 5)).1 ?_
  have HQ4 := Lib.hid (show ∀ j, (j < w.heap.size ∨ j = z4) → j < wl.heap.size ∧ (j < w.heap.size ∨ j = w.heap.size + 4) from fun j hj => by have := HZ.out; omega)
  refine rangeH (n := 5) rfl (by omega) (gf := 126) (lb := #[.pointer (some ⟨z4, 0, none⟩)]) rfl trivial (enters_of Tryz.func126 (by kernel_rfl) rfl) HSEQ (fun x => rfl) (fun _ _ _ _ _ => pgRp_put) (PgI w num suf) (PgX w num suf) (PgI.ab hsz) (PgX.ab hsz)
    (fun s q W o' h => h.put hsz) (fun cc s q W o' h => h.put hsz (.inl rfl)) (fun j hj => (HQ4.out j hj).1) (fun s q W h j hj => by have := h.q j hj; omega) (fun W hx hs => ⟨hxl.trans hx, by omega, fun j hj => by have := (HQ4.out j hj).2; omega, (hx.block _ (by omega)).trans hB1, (hx.block _ (by omega)).trans hB2, (hx.block _ (by omega)).trans hB3, rfl⟩)
    (PgAx w z1 z2 z3 z4 b num suf A N c) (fun _ _ _ _ _ h => ?ap) (fun q x W W' h hx => pgRp_ext h hx) ?assign ?body ?done ?stop
  case ap =>
    obtain ⟨Bx, h1, h2, h3⟩ := h
    exact ⟨Bx, h1, (World.putObj_heap_other (by omega)).trans h2, h3⟩
  case assign =>
    rintro l ⟨pg, ⟨A7, n7, c7⟩, ⟨A8, n8, c8⟩⟩ q W K hrp hlen hqs hK
    dsimp only [pgEnc]
    gi_wp2
    exact hK _ _ ((Ext.refl W).alloc _) ⟨W.heap.size, by omega, heap_alloc_at _ _ _ _ rfl, rfl⟩
  case body =>
    rintro pre ⟨pg, ⟨A7, n7, c7⟩, ⟨A8, n8, c8⟩⟩ q a' W hI hrp ⟨Bx, hBx, hB, rfl⟩ hqs hlen _
    unfold pgCells at hB ⊢
    dsimp only at hB ⊢
    have c0 := cell_of hB (i := 0) (u := .int .i64 pg.num) rfl
    have c1 := cell_of hB (i := 1) (u := .int .i64 pg.suf) rfl
    have c2 := cell_of hB (i := 2) (u := .int .i64 pg.ent) rfl
    have c3 := cell_of hB (i := 3) (u := .int .i64 pg.ver) rfl
    have c4 := cell_of hB (i := 4) (u := .slice A7 n7 c7) rfl
    have c5 := cell_of hB (i := 5) (u := .slice A8 n8 c8) rfl
    obtain ⟨hz1, hz2, hz3, hz4⟩ := HZ.out
    have hR := hI.r
    have hBb := hI.b
    have hLb := hI.l
    rw [← hz2] at hR
    rw [← hz3] at hBb
    rw [← hz1] at hLb
    have n1 : z2 ≠ z3 := by omega
    have n2 : z3 ≠ z2 := by omega
    clear hz1 hz2 hz3 hz4
    have f0 := frozen_of hR 0
    have f1 := frozen_of hR 1
    have f2 := frozen_of hR 2
    have f3 := frozen_of hR 3
    have f4 := frozen_of hR 4
    have f5 := frozen_of hR 5
    have f6 := frozen_of hBb 0
    have r0 := cell_of hR (i := 0) (u := .int .i64 0) rfl
    have r1 := cell_of hR (i := 1) (u := .int .i64 0) rfl
    have r2 := cell_of hR (i := 2) (u := .int .i64 0) rfl
    have r3 := cell_of hR (i := 3) (u := .int .i64 0) rfl
    have r4 := cell_of hR (i := 4) (u := .slice none 0 0) rfl
    have r5 := cell_of hR (i := 5) (u := .slice none 0 0) rfl
    have r6 := cell_of hBb (i := 0) (u := .bool false) rfl
    have HRB := Lib.hid (And.intro hR hBb)
    have l0 := cell_of hLb (i := 0) (u := .int .i64 num) rfl
    have l1 := cell_of hLb (i := 1) (u := .int .i64 suf) rfl
    have HI := Lib.hid hI
    have HRP := Lib.hid hrp
    have HQS := Lib.hid hqs
    have HBX := Lib.hid hB
    clear hI hrp hqs hB hB1 hB2 hB3 hB4 hR hBb hLb HSEQ
    by_cases h1 : pg.num = num
    · by_cases h2 : pg.suf = suf
      · have g1 : (pg.num == num) = true := by simpa using h1
        have g2 : (pg.suf == suf) = true := by simpa using h2
        have H1 := Lib.hid h1
        have H2 := Lib.hid h2
        clear h1 h2
        gi_wp2
        obtain ⟨Y, hY⟩ : ∃ Y, (((((((W.setCell ⟨z2, 0, none⟩ (.int .i64 pg.num)).setCell ⟨z2, 1, none⟩ (.int .i64 pg.suf)).setCell ⟨z2, 2, none⟩ (.int .i64 pg.ent)).setCell ⟨z2, 3, none⟩ (.int .i64 pg.ver)).setCell ⟨z2, 4, none⟩ (.slice A7 n7 c7)).setCell ⟨z2, 5, none⟩ (.slice A8 n8 c8)).setCell ⟨z3, 0, none⟩ (.bool true)) = Y := ⟨_, rfl⟩
        have hs6 := st6 n1 HRB.out.1 HRB.out.2 (.int .i64 pg.num) (.int .i64 pg.suf) (.int .i64 pg.ent) (.int .i64 pg.ver) (.slice A7 n7 c7) (.slice A8 n8 c8) (.bool true)
        rw [hY] at hs6 ⊢
        obtain ⟨hz1, hz2, hz3, hz4⟩ := HZ.out
        obtain ⟨k1, k2, k3, k4, _⟩ := HRP.out
        have hI := HI.out
        refine ⟨⟨hs6.keep _ (by omega) (by omega), hs6.keep _ (by omega) (by omega)⟩, ⟨rfl, hs6.ext w (by omega) (by omega) hI.x, by rw [hs6.size]; omega, ⟨pg, A7, n7, c7, A8, n8, c8, ?_, k1, k2, ?_, ?_, by rw [← hz2]; exact hs6.h2⟩, by rw [← hz3]; exact hs6.h3⟩⟩
        · rw [find_snoc hI.n]
          exact if_pos (by simp [lbIs, H1.out, H2.out])
        · exact Lay.row_mono (Lay.row_keep k3 (by rw [hs6.size]; omega) fun j hj hl => hs6.keep j (by omega) (by omega)) fun j hj hl => (by have := hI.q j hj.1.1; omega)
        · exact Lay.row_mono (Lay.row_keep k4 (by rw [hs6.size]; omega) fun j hj hl => hs6.keep j (by omega) (by omega)) fun j hj hl => (by have := hI.q j hj.1.1; omega)
      · have g1 : (pg.num == num) = true := by simpa using h1
        have g2 : (pg.suf == suf) = false := by simpa using h2
        have H2 := Lib.hid h2
        clear h1 h2
        gi_wp2
        have hI := HI.out
        exact ⟨⟨rfl, rfl⟩, fun _ _ => rfl, ⟨hI.x, hI.s, hI.q, hI.l, hI.r, hI.b, by rw [find_snoc hI.n]; exact if_neg (by simp [lbIs, H2.out])⟩⟩
    · have g1 : (pg.num == num) = false := by simpa using h1
      have H1 := Lib.hid h1
      clear h1
      gi_wp2
      have hI := HI.out
      exact ⟨⟨rfl, rfl⟩, fun _ _ => rfl, ⟨hI.x, hI.s, hI.q, hI.l, hI.r, hI.b, by rw [find_snoc hI.n]; exact if_neg (by simp [lbIs, H1.out])⟩⟩
  case done =>
    intro xs q W hS hI hK
    obtain ⟨hz1, hz2, hz3, hz4⟩ := HZ.out
    have hR := hI.r
    have hBb := hI.b
    have hLb := hI.l
    rw [← hz2] at hR
    rw [← hz3] at hBb
    rw [← hz1] at hLb
    have n1 : z2 ≠ z3 := by omega
    have n2 : z3 ≠ z2 := by omega
    clear hz1 hz2 hz3 hz4
    have f0 := frozen_of hR 0
    have f1 := frozen_of hR 1
    have f2 := frozen_of hR 2
    have f3 := frozen_of hR 3
    have f4 := frozen_of hR 4
    have f5 := frozen_of hR 5
    have f6 := frozen_of hBb 0
    have r0 := cell_of hR (i := 0) (u := .int .i64 0) rfl
    have r1 := cell_of hR (i := 1) (u := .int .i64 0) rfl
    have r2 := cell_of hR (i := 2) (u := .int .i64 0) rfl
    have r3 := cell_of hR (i := 3) (u := .int .i64 0) rfl
    have r4 := cell_of hR (i := 4) (u := .slice none 0 0) rfl
    have r5 := cell_of hR (i := 5) (u := .slice none 0 0) rfl
    have r6 := cell_of hBb (i := 0) (u := .bool false) rfl
    have HRB := Lib.hid (And.intro hR hBb)
    have HI := Lib.hid hI
    have HK := Lib.hid hK
    clear hI hK hB1 hB2 hB3 hB4 HSEQ hR hBb hLb
    gi_wp2
    go_wp2_with fail
    obtain ⟨Y, hY⟩ : ∃ Y, (((((((W.setCell ⟨z2, 0, none⟩ (.int .i64 0)).setCell ⟨z2, 1, none⟩ (.int .i64 0)).setCell ⟨z2, 2, none⟩ (.int .i64 0)).setCell ⟨z2, 3, none⟩ (.int .i64 0)).setCell ⟨z2, 4, none⟩ (.slice none 0 0)).setCell ⟨z2, 5, none⟩ (.slice none 0 0)).setCell ⟨z3, 0, none⟩ (.bool false)) = Y := ⟨_, rfl⟩
    have hs6 := st6 n1 HRB.out.1 HRB.out.2 (.int .i64 0) (.int .i64 0) (.int .i64 0) (.int .i64 0) (.slice none 0 0) (.slice none 0 0) (.bool false)
    rw [hY] at hs6 ⊢
    obtain ⟨Z, hZ⟩ : ∃ Z, Y.putObj wl.heap.size (.deferred none) = Z := ⟨_, rfl⟩
    obtain ⟨hz1, hz2, hz3, hz4⟩ := HZ.out
    have hZ2 : Z.heap[z2]? = Y.heap[z2]? := by rw [← hZ]; exact World.putObj_heap_other (by omega)
    have hZ3 : Z.heap[z3]? = Y.heap[z3]? := by rw [← hZ]; exact World.putObj_heap_other (by omega)
    have hKY : Y.heap[wl.heap.size]? = some (.deferred (some [])) := (hs6.keep _ (by omega) (by omega)).trans HK.out
    have hxZ : Ext w Z := by rw [← hZ]; exact (hs6.ext w (by omega) (by omega) HI.out.x).putObj (by omega) _
    have q0 := cell_of (hZ2.trans hs6.h2) (i := 0) rfl
    have q1 := cell_of (hZ2.trans hs6.h2) (i := 1) rfl
    have q2 := cell_of (hZ2.trans hs6.h2) (i := 2) rfl
    have q3 := cell_of (hZ2.trans hs6.h2) (i := 3) rfl
    have q4 := cell_of (hZ2.trans hs6.h2) (i := 4) rfl
    have q5 := cell_of (hZ2.trans hs6.h2) (i := 5) rfl
    have q6 := cell_of (hZ3.trans hs6.h3) (i := 0) rfl
    refine ⟨by simp, .inl ⟨_, _, rfl, run_takeDeferred hKY, ?_⟩⟩
    rw [hZ]
    refine ⟨.tuple #[.agg #[.int .i64 0, .int .i64 0, .int .i64 0, .int .i64 0, .slice none 0 0, .slice none 0 0], .bool false], by simp [results, Tryz.results91, go_sem, q0, q1, q2, q3, q4, q5, q6], .inl ⟨?_, rfl, hxZ⟩⟩
    have := HI.out.n
    rw [hS] at this
    exact this
  case stop =>
    intro cc pre q W hS hX hK
    obtain rfl := hX.c
    have HX := Lib.hid hX
    have HK := Lib.hid hK
    clear hX hK
    gi_wp2
    obtain ⟨Y, hY⟩ : ∃ Y, W = Y := ⟨_, rfl⟩
    rw [hY] at HX HK ⊢
    obtain ⟨Z, hZ⟩ : ∃ Z, Y.putObj wl.heap.size (.deferred none) = Z := ⟨_, rfl⟩
    obtain ⟨hz1, hz2, hz3, hz4⟩ := HZ.out
    have hZ2 : Z.heap[z2]? = Y.heap[z2]? := by rw [← hZ]; exact World.putObj_heap_other (by omega)
    have hZ3 : Z.heap[z3]? = Y.heap[z3]? := by rw [← hZ]; exact World.putObj_heap_other (by omega)
    have hXZ : PgX w num suf .ret pre q Z := by rw [← hZ]; exact HX.out.put hsz (.inr rfl)
    obtain ⟨p, A7, n7, c7, A8, n8, c8, h1, h2, h3, h4, h5, h6⟩ := hXZ.p
    rw [← hz2] at h6
    have h7 := hXZ.b
    rw [← hz3] at h7
    unfold pgCells at h6
    have q0 := cell_of h6 (i := 0) rfl
    have q1 := cell_of h6 (i := 1) rfl
    have q2 := cell_of h6 (i := 2) rfl
    have q3 := cell_of h6 (i := 3) rfl
    have q4 := cell_of h6 (i := 4) rfl
    have q5 := cell_of h6 (i := 5) rfl
    have q6 := cell_of h7 (i := 0) rfl
    refine ⟨by simp, .inl ⟨_, _, by rw [← hsz], run_takeDeferred HK.out, ?_⟩⟩
    rw [hZ]
    refine ⟨.tuple #[.agg #[.int .i64 p.num, .int .i64 p.suf, .int .i64 p.ent, .int .i64 p.ver, .slice A7 n7 c7, .slice A8 n8 c8], .bool true], by simp [results, Tryz.results91, go_sem, q0, q1, q2, q3, q4, q5, q6], .inr ⟨p, A7, n7, c7, A8, n8, c8, ?_, rfl, h2, h3, Lay.row_mono h4 fun j hj _ => (by omega), Lay.row_mono h5 fun j hj _ => (by omega), hXZ.x⟩⟩
    obtain ⟨R, hR⟩ := hS
    show (pagesB b).find? (lbIs num suf) = some p
    rw [← hR, List.find?_append, h1]
    rfl
end Go.Proofs.YtdbnddmncbjobaaGreatDoor

/- book.Where: walked. -/
namespace Go.Proofs.YtdbnddmncbjobaaGreatDoor
open Go Go.RowKit Go.Shelf
attribute [local go_sem] Oper.semAt_some

theorem whereG_app (e v wd : Int) : ∀ (X R : List Pg), whereG e v wd X = none → whereG e v wd (X ++ R) = whereG e v wd R := by
  intro X
  induction X with
  | nil => intro R _; rfl
  | cons p X ih =>
    intro R h
    simp only [List.cons_append, whereG] at h ⊢
    split at h
    · next hp => rw [if_pos hp]; exact ih R h
    · next hp =>
      rw [if_neg hp]
      split at h
      · cases h
      · next hl => exact ih R h
variable {β : Type}
def WherePost (w : World) (b : Bk) (e v wd : Int) (z : Ending) (w' : World) : Prop :=
  (whereP b e v wd = none ∧ z = .returned (.tuple #[.agg #[.int .i64 0, .int .i64 0], .int .i64 0, .bool false]) ∧ Ext w w') ∨
  ∃ (n s : Int) (i : Nat), whereP b e v wd = some (n, s, i) ∧ z = .returned (.tuple #[.agg #[.int .i64 n, .int .i64 s], .int .i64 i, .bool true]) ∧ Ext w w'
/-- Between two rounds: the word has not been found. -/
structure WhI (w : World) (e v wd : Int) (pre : List PgV) (q : Nat → Prop) (W : World) : Prop where
  x : Ext w W
  s : w.heap.size + 10 ≤ W.heap.size
  q : ∀ j, q j → j < w.heap.size ∨ j = w.heap.size + 7 ∨ w.heap.size + 10 ≤ j
  a1 : W.heap[w.heap.size + 1]? = some (.cells #[.int .i64 e] 3 (0, 0))
  a2 : W.heap[w.heap.size + 2]? = some (.cells #[.int .i64 v] 3 (0, 0))
  a3 : W.heap[w.heap.size + 3]? = some (.cells #[.int .i64 wd] 3 (0, 0))
  r4 : W.heap[w.heap.size + 4]? = some (.cells #[.int .i64 0, .int .i64 0] 64 (0, 0))
  r5 : W.heap[w.heap.size + 5]? = some (.cells #[.int .i64 0] 3 (0, 0))
  r6 : W.heap[w.heap.size + 6]? = some (.cells #[.bool false] 4 (0, 0))
  n : whereG e v wd (pre.map (·.1)) = none
/-- It has been. -/
structure WhX (w : World) (e v wd : Int) (c : Code) (pre : List PgV) (q : Nat → Prop) (W : World) : Prop where
  c : c = .ret
  x : Ext w W
  s : w.heap.size + 10 ≤ W.heap.size
  p : ∃ (n s : Int) (i : Nat), (∀ R, whereG e v wd (pre.map (·.1) ++ R) = some (n, s, i)) ∧ W.heap[w.heap.size + 4]? = some (.cells #[.int .i64 n, .int .i64 s] 64 (0, 0)) ∧ W.heap[w.heap.size + 5]? = some (.cells #[.int .i64 i] 3 (0, 0))
  b : W.heap[w.heap.size + 6]? = some (.cells #[.bool true] 4 (0, 0))
theorem WhI.ab {w wl : World} {e v wd : Int} (hs : wl.heap.size = w.heap.size + 8) : AbMv (wl.heap.size + 2) (WhI w e v wd) := by
  intro s Q Q' A B h hm hg
  have hsz := h.s
  refine ⟨hm.ext w (by omega) h.x, Nat.le_trans h.s hm.size, fun j hj => ?_, hm.blk (by omega) h.a1, hm.blk (by omega) h.a2, hm.blk (by omega) h.a3, hm.blk (by omega) h.r4, hm.blk (by omega) h.r5, hm.blk (by omega) h.r6, h.n⟩
  rcases hg j hj with h1 | h1 | h1
  · exact h.q j h1
  · omega
  · omega
theorem WhI.put {w wl : World} {e v wd : Int} (hs : wl.heap.size = w.heap.size + 8) {s : List PgV} {q : Nat → Prop} {W : World} {o : Obj} (h : WhI w e v wd s q W) : WhI w e v wd s q (W.putObj (wl.heap.size + 1) o) :=
  ⟨h.x.putObj (by omega) o, by simpa using h.s, h.q, (World.putObj_heap_other (by omega)).trans h.a1, (World.putObj_heap_other (by omega)).trans h.a2, (World.putObj_heap_other (by omega)).trans h.a3, (World.putObj_heap_other (by omega)).trans h.r4, (World.putObj_heap_other (by omega)).trans h.r5, (World.putObj_heap_other (by omega)).trans h.r6, h.n⟩
theorem WhX.ab {w wl : World} {e v wd : Int} (hs : wl.heap.size = w.heap.size + 8) (c : Code) : AbMv (wl.heap.size + 2) (WhX w e v wd c) := by
  intro s Q Q' A B h hm hg
  obtain ⟨n, k, i, h1, h2, h3⟩ := h.p
  have hsz := h.s
  exact ⟨h.c, hm.ext w (by omega) h.x, Nat.le_trans h.s hm.size, ⟨n, k, i, h1, hm.blk (by omega) h2, hm.blk (by omega) h3⟩, hm.blk (by omega) h.b⟩
theorem WhX.put {w wl : World} {e v wd : Int} (hs : wl.heap.size = w.heap.size + 8) {c : Code} {s : List PgV} {q : Nat → Prop} {W : World} {k : Nat} {o : Obj} (hk : k = wl.heap.size + 1 ∨ k = wl.heap.size) (h : WhX w e v wd c s q W) : WhX w e v wd c s q (W.putObj k o) := by
  obtain ⟨n, m, i, h1, h2, h3⟩ := h.p
  exact ⟨h.c, h.x.putObj (by omega) o, by simpa using h.s, ⟨n, m, i, h1, (World.putObj_heap_other (by omega)).trans h2, (World.putObj_heap_other (by omega)).trans h3⟩, (World.putObj_heap_other (by omega)).trans h.b⟩
theorem own_row_all {k : Lay β} {e : TypeId} {W : World} {base : Nat} {P : Nat → Prop} {A : Option Addr} {m c : Nat} {xs : List β} (hm : xs.length = m) (h : k.own e W base P (.slice A m c) xs) : k.row W (fun _ => True) A m xs := by
  obtain ⟨A', c', e1, _, h2⟩ := Lay.own_row h
  obtain ⟨e2, _, _⟩ := Value.slice.inj e1
  subst e2 hm
  exact Lay.row_mono h2 fun _ _ _ => trivial
/-- A label, a number and a bool are stored. -/
structure St4 (W Y : World) (z4 z5 z6 : Nat) (v0 v1 v2 v3 : Value) : Prop where
  size : Y.heap.size = W.heap.size
  keep : ∀ j, j ≠ z4 → j ≠ z5 → j ≠ z6 → Y.heap[j]? = W.heap[j]?
  ext : ∀ a : World, a.heap.size ≤ z4 → a.heap.size ≤ z5 → a.heap.size ≤ z6 → Ext a W → Ext a Y
  h4 : Y.heap[z4]? = some (.cells #[v0, v1] 64 (0, 0))
  h5 : Y.heap[z5]? = some (.cells #[v2] 3 (0, 0))
  h6 : Y.heap[z6]? = some (.cells #[v3] 4 (0, 0))
theorem st4 {W : World} {z4 z5 z6 : Nat} (n45 : z4 ≠ z5) (n46 : z4 ≠ z6) (n56 : z5 ≠ z6) {a0 a1 x y : Value} (h4 : W.heap[z4]? = some (.cells #[a0, a1] 64 (0, 0))) (h5 : W.heap[z5]? = some (.cells #[x] 3 (0, 0))) (h6 : W.heap[z6]? = some (.cells #[y] 4 (0, 0))) (v0 v1 v2 v3 : Value) :
    St4 W ((((W.setCell ⟨z4, 0, none⟩ v0).setCell ⟨z4, 1, none⟩ v1).setCell ⟨z5, 0, none⟩ v2).setCell ⟨z6, 0, none⟩ v3) z4 z5 z6 v0 v1 v2 v3 := by
  have g5 : ((W.setCell ⟨z4, 0, none⟩ v0).setCell ⟨z4, 1, none⟩ v1).heap[z5]? = some (.cells #[x] 3 (0, 0)) := by
    rw [heap_setCell_other _ ⟨z4, 1, none⟩ z5 _ n45.symm, heap_setCell_other _ ⟨z4, 0, none⟩ z5 _ n45.symm]; exact h5
  have g6 : (((W.setCell ⟨z4, 0, none⟩ v0).setCell ⟨z4, 1, none⟩ v1).setCell ⟨z5, 0, none⟩ v2).heap[z6]? = some (.cells #[y] 4 (0, 0)) := by
    rw [heap_setCell_other _ ⟨z5, 0, none⟩ z6 _ n56.symm, heap_setCell_other _ ⟨z4, 1, none⟩ z6 _ n46.symm, heap_setCell_other _ ⟨z4, 0, none⟩ z6 _ n46.symm]; exact h6
  refine ⟨by simp, fun j k4 k5 k6 => ?_, fun a l4 l5 l6 hx => ?_, ?_, ?_, ?_⟩
  · rw [heap_setCell_other _ ⟨z6, 0, none⟩ j _ k6, heap_setCell_other _ ⟨z5, 0, none⟩ j _ k5, heap_setCell_other _ ⟨z4, 1, none⟩ j _ k4, heap_setCell_other _ ⟨z4, 0, none⟩ j _ k4]
  · exact ((((hx.setCell (p := ⟨z4, 0, none⟩) l4 _).setCell (p := ⟨z4, 1, none⟩) l4 _).setCell (p := ⟨z5, 0, none⟩) l5 _).setCell (p := ⟨z6, 0, none⟩) l6 _)
  · rw [heap_setCell_other _ ⟨z6, 0, none⟩ z4 _ n46, heap_setCell_other _ ⟨z5, 0, none⟩ z4 _ n45]
    exact heap_setCell_same _ z4 1 _ 64 _ (heap_setCell_same _ z4 0 _ 64 _ h4)
  · rw [heap_setCell_other _ ⟨z6, 0, none⟩ z5 _ n56]
    exact heap_setCell_same _ z5 0 _ 3 v2 g5
  · exact heap_setCell_same _ z6 0 _ 4 v3 g6
def WhL (W1 : World) (wd : Int) (L : List Ln) (s34 : Value) (w' : World) : Prop := ∃ i : Nat, i ≤ L.length ∧ s34 = .int .i64 i ∧ Ext W1 w' ∧ lineAt wd L 0 = lineAt wd (L.drop i) i
def WhAx (w : World) (z1 z2 z3 z4 z5 z6 z7 : Nat) (b : Bk) (e v wd : Int) (A : Option Addr) (N c : Nat) (x : PgV) (_ : Nat → Prop) (a' : Act) (W : World) : Prop :=
  ∃ Bx, w.heap.size + 10 < Bx ∧ W.heap[Bx]? = some (.cells (pgCells x.1 x.2.1.1 x.2.1.2.1 x.2.1.2.2 x.2.2.1 x.2.2.2.1 x.2.2.2.2) 84 (0, 0)) ∧
    a' = { tmps := #[.agg #[.int .i64 b.ms, .int .i64 b.ht, .slice A N c], .int .i64 e, .int .i64 v, .int .i64 wd, .pointer (some ⟨w.heap.size, 0, none⟩), .pointer (some ⟨z1, 0, none⟩), .pointer (some ⟨z2, 0, none⟩), .pointer (some ⟨z3, 0, none⟩), .pointer (some ⟨z4, 0, none⟩), .pointer (some ⟨z5, 0, none⟩), .pointer (some ⟨z6, 0, none⟩), .pointer (some ⟨Bx, 0, none⟩), undef, undef, .agg #[.int .i64 b.ms, .int .i64 b.ht, .slice A N c], .func (.func 126) #[] #[.pointer (some ⟨z7, 0, none⟩)], .agg (pgCells x.1 x.2.1.1 x.2.1.2.1 x.2.1.2.2 x.2.2.1 x.2.2.2.1 x.2.2.2.2), undef, undef, undef, undef, undef, undef, undef, undef, undef, undef, undef, undef, undef, undef, undef, undef, undef, undef, undef, undef, undef, undef, undef, undef, undef, undef, undef, undef, undef, undef, undef, undef, undef, undef, undef, undef, undef, undef], defers := [] }
set_option maxHeartbeats 4000000 in
set_option maxRecDepth 100000 in
theorem where_any (P : Nat → Prop) (w : World) (b : Bk) (e v wd : Int) (A : Option Addr) (N c : Nat) (hb : BkI b) (hr : kSe.row w P A N b.secs) (hL : EnvW w) :
    Calls Tryz.prog 33 #[.agg #[.int .i64 b.ms, .int .i64 b.ht, .slice A N c], .int .i64 e, .int .i64 v, .int .i64 wd] w (WherePost w b e v wd) := by
  refine (callsIn_wide (n := 5)).1 ?_
  refine callsIn_of_wp_marks Tryz.func33 rfl trivial ?_ rfl
  simp only [Tryz.ntmps33, List.size_toArray, List.length_cons, List.length_nil, Nat.reduceAdd, Nat.reduceSub, Array.replicate_succ, Array.replicate_zero, List.push_toArray, List.append_toArray, List.nil_append, List.cons_append]
  refine wpIn_wide.2 ?_
  go_wp2_with (first | (go_at_call 73; refine (all_any _ _ _ _ _ _).mono ?_; rintro e w' ⟨rfl, rfl⟩))
  obtain ⟨wl, hwl⟩ : ∃ wl, ((((((((w.alloc (Obj.cells #[Value.int IntKind.i64 b.ms, Value.int IntKind.i64 b.ht, Value.slice A N c] 27)).alloc (Obj.cells #[Value.int IntKind.i64 e] 3)).alloc (Obj.cells #[Value.int IntKind.i64 v] 3)).alloc (Obj.cells #[Value.int IntKind.i64 wd] 3)).alloc (Obj.cells #[Value.int IntKind.i64 0, Value.int IntKind.i64 0] 64)).alloc (Obj.cells #[Value.int IntKind.i64 0] 3)).alloc (Obj.cells #[Value.bool false] 4)).alloc (Obj.cells #[Value.int IntKind.i64 b.ms, Value.int IntKind.i64 b.ht, Value.slice A N c] 27)) = wl := ⟨_, rfl⟩
  obtain ⟨z7, hz7⟩ : ∃ z, w.heap.size + 1 + 1 + 1 + 1 + 1 + 1 + 1 = z := ⟨_, rfl⟩
  obtain ⟨z6, hz6⟩ : ∃ z, w.heap.size + 1 + 1 + 1 + 1 + 1 + 1 = z := ⟨_, rfl⟩
  obtain ⟨z5, hz5⟩ : ∃ z, w.heap.size + 1 + 1 + 1 + 1 + 1 = z := ⟨_, rfl⟩
  obtain ⟨z4, hz4⟩ : ∃ z, w.heap.size + 1 + 1 + 1 + 1 = z := ⟨_, rfl⟩
  obtain ⟨z3, hz3⟩ : ∃ z, w.heap.size + 1 + 1 + 1 = z := ⟨_, rfl⟩
  obtain ⟨z2, hz2⟩ : ∃ z, w.heap.size + 1 + 1 = z := ⟨_, rfl⟩
  obtain ⟨z1, hz1⟩ : ∃ z, w.heap.size + 1 = z := ⟨_, rfl⟩
  rw [hwl, hz7, hz6, hz5, hz4, hz3, hz2, hz1]
  have hsz : wl.heap.size = w.heap.size + 8 := by rw [← hwl]; simp
  have hxl : Ext w wl := by rw [← hwl]; exact ((((((((Ext.refl w).alloc _).alloc _).alloc _).alloc _).alloc _).alloc _).alloc _).alloc _
  have hB7 : wl.heap[w.heap.size + 7]? = some (.cells #[.int .i64 b.ms, .int .i64 b.ht, .slice A N c] 27 (0, 0)) := by rw [← hwl]; exact heap_alloc_at _ _ _ _ (by simp)
  have hB6 : wl.heap[w.heap.size + 6]? = some (.cells #[.bool false] 4 (0, 0)) := by rw [← hwl, heap_alloc_old _ _ _ (by simp)]; exact heap_alloc_at _ _ _ _ (by simp)
  have hB5 : wl.heap[w.heap.size + 5]? = some (.cells #[.int .i64 0] 3 (0, 0)) := by rw [← hwl, heap_alloc_old _ _ _ (by simp), heap_alloc_old _ _ _ (by simp)]; exact heap_alloc_at _ _ _ _ (by simp)
  have hB4 : wl.heap[w.heap.size + 4]? = some (.cells #[.int .i64 0, .int .i64 0] 64 (0, 0)) := by rw [← hwl, heap_alloc_old _ _ _ (by simp), heap_alloc_old _ _ _ (by simp), heap_alloc_old _ _ _ (by simp)]; exact heap_alloc_at _ _ _ _ (by simp)
  have hB3 : wl.heap[w.heap.size + 3]? = some (.cells #[.int .i64 wd] 3 (0, 0)) := by rw [← hwl, heap_alloc_old _ _ _ (by simp), heap_alloc_old _ _ _ (by simp), heap_alloc_old _ _ _ (by simp), heap_alloc_old _ _ _ (by simp)]; exact heap_alloc_at _ _ _ _ (by simp)
  have hB2 : wl.heap[w.heap.size + 2]? = some (.cells #[.int .i64 v] 3 (0, 0)) := by rw [← hwl, heap_alloc_old _ _ _ (by simp), heap_alloc_old _ _ _ (by simp), heap_alloc_old _ _ _ (by simp), heap_alloc_old _ _ _ (by simp), heap_alloc_old _ _ _ (by simp)]; exact heap_alloc_at _ _ _ _ (by simp)
  have hB1 : wl.heap[w.heap.size + 1]? = some (.cells #[.int .i64 e] 3 (0, 0)) := by rw [← hwl, heap_alloc_old _ _ _ (by simp), heap_alloc_old _ _ _ (by simp), heap_alloc_old _ _ _ (by simp), heap_alloc_old _ _ _ (by simp), heap_alloc_old _ _ _ (by simp), heap_alloc_old _ _ _ (by simp)]; exact heap_alloc_at _ _ _ _ (by simp)
  have HSEQ := all1_seq 4 wl b z7 A N c (fun j => j < w.heap.size ∨ j = z7) hb (fun j hj => by omega) (.inl hL.lt4) (.inr rfl) (by rw [← hz7]; exact hB7) (Lay.row_mono (Lay.row_ext (Lay.row_mono (Q := fun j => j < w.heap.size) hr fun j _ hl => hl) hxl) fun j hj _ => .inl hj) (hL.ext hxl)
  have HZ := Lib.hid (show z1 = w.heap.size + 1 ∧ z2 = w.heap.size + 2 ∧ z3 = w.heap.size + 3 ∧ z4 = w.heap.size + 4 ∧ z5 = w.heap.size + 5 ∧ z6 = w.heap.size + 6 ∧ z7 = w.heap.size + 7 by omega)
  clear hwl hz1 hz2 hz3 hz4 hz5 hz6 hz7
  refine (wpIn_wide (n := 5)).1 ?_
  have HQ4 := Lib.hid (show ∀ j, (j < w.heap.size ∨ j = z7) → j < wl.heap.size ∧ (j < w.heap.size ∨ j = w.heap.size + 7) from fun j hj => by have := HZ.out; omega)
  refine rangeH (n := 5) rfl (by omega) (gf := 126) (lb := #[.pointer (some ⟨z7, 0, none⟩)]) rfl trivial (enters_of Tryz.func126 (by kernel_rfl) rfl) HSEQ (fun x => rfl) (fun _ _ _ _ _ => pgRp_put) (WhI w e v wd) (WhX w e v wd) (WhI.ab hsz) (WhX.ab hsz)
    (fun s q W o' h => h.put hsz) (fun cc s q W o' h => h.put hsz (.inl rfl)) (fun j hj => (HQ4.out j hj).1) (fun s q W h j hj => by have := h.q j hj; omega) (fun W hx hs => ⟨hxl.trans hx, by omega, fun j hj => by have := (HQ4.out j hj).2; omega, (hx.block _ (by omega)).trans hB1, (hx.block _ (by omega)).trans hB2, (hx.block _ (by omega)).trans hB3, (hx.block _ (by omega)).trans hB4, (hx.block _ (by omega)).trans hB5, (hx.block _ (by omega)).trans hB6, rfl⟩)
    (WhAx w z1 z2 z3 z4 z5 z6 z7 b e v wd A N c) (fun _ _ _ _ _ h => ?ap) (fun q x W W' h hx => pgRp_ext h hx) ?assign ?body ?done ?stop
  case ap =>
    obtain ⟨Bx, h1, h2, h3⟩ := h
    exact ⟨Bx, h1, (World.putObj_heap_other (by omega)).trans h2, h3⟩
  case assign =>
    rintro l ⟨pg, ⟨A7, n7, c7⟩, ⟨A8, n8, c8⟩⟩ q W K hrp hlen hqs hK
    dsimp only [pgEnc]
    gi_wp2
    exact hK _ _ ((Ext.refl W).alloc _) ⟨W.heap.size, by omega, heap_alloc_at _ _ _ _ rfl, rfl⟩
  case body =>
    rintro pre ⟨pg, ⟨A7, n7, c7⟩, ⟨A8, n8, c8⟩⟩ q a' W hI hrp ⟨Bx, hBx, hB, rfl⟩ hqs hlen _
    unfold pgCells at hB ⊢
    dsimp only at hB ⊢
    have c0 := cell_of hB (i := 0) (u := .int .i64 pg.num) rfl
    have c1 := cell_of hB (i := 1) (u := .int .i64 pg.suf) rfl
    have c2 := cell_of hB (i := 2) (u := .int .i64 pg.ent) rfl
    have c3 := cell_of hB (i := 3) (u := .int .i64 pg.ver) rfl
    have c4 := cell_of hB (i := 4) (u := .slice A7 n7 c7) rfl
    have c5 := cell_of hB (i := 5) (u := .slice A8 n8 c8) rfl
    obtain ⟨hz1, hz2, hz3, hz4, hz5, hz6, hz7⟩ := HZ.out
    have hA1 := hI.a1
    have hA2 := hI.a2
    have hA3 := hI.a3
    have hR4 := hI.r4
    have hR5 := hI.r5
    have hR6 := hI.r6
    rw [← hz1] at hA1
    rw [← hz2] at hA2
    rw [← hz3] at hA3
    rw [← hz4] at hR4
    rw [← hz5] at hR5
    rw [← hz6] at hR6
    have n45 : z4 ≠ z5 := by omega
    have n54 : z5 ≠ z4 := by omega
    have n46 : z4 ≠ z6 := by omega
    have n64 : z6 ≠ z4 := by omega
    have n56 : z5 ≠ z6 := by omega
    have n65 : z6 ≠ z5 := by omega
    clear hz1 hz2 hz3 hz4 hz5 hz6 hz7
    have a1 := cell_of hA1 (i := 0) (u := .int .i64 e) rfl
    have a2 := cell_of hA2 (i := 0) (u := .int .i64 v) rfl
    have HA3 := Lib.hid hA3
    have HRB := Lib.hid (And.intro hR4 (And.intro hR5 hR6))
    have HI := Lib.hid hI
    have HRP := Lib.hid hrp
    have HQS := Lib.hid hqs
    have HBX := Lib.hid hB
    clear hI hrp hqs hB hB1 hB2 hB3 hB4 hB5 hB6 hB7 hA1 hA2 hA3 hR4 hR5 hR6 HSEQ
    by_cases h1 : pg.ent = e
    · by_cases h2 : pg.ver = v
      · have g1 : (pg.ent != e) = false := by simpa using h1
        have g2 : (pg.ver != v) = false := by simpa using h2
        have H1 := Lib.hid h1
        have H2 := Lib.hid h2
        clear h1 h2
        obtain ⟨L, hLe⟩ : ∃ L, pg.body ++ pg.nts = L := ⟨_, rfl⟩
        obtain ⟨m, hme⟩ : ∃ m, L.length = m := ⟨_, rfl⟩
        have hxa : Ext W (W.alloc (.cells #[.slice A7 n7 c7, .slice A8 n8 c8] 82)) := (Ext.refl W).alloc _
        have hna := heap_alloc_new W (.cells #[.slice A7 n7 c7, .slice A8 n8 c8] 82)
        have HCAT := Lib.hid (show Calls Tryz.prog 56 #[.slice (some ⟨W.heap.size, 0, none⟩) 2 2] (W.alloc (.cells #[.slice A7 n7 c7, .slice A8 n8 c8] 82)) (fun en W' => ∃ A c, en = .returned (.slice A m c) ∧ kLn.row W' (fun _ => True) A m L ∧ Ext W W') from by
          obtain ⟨_, _, k3, k4, k5, k6⟩ := HRP.out
          have e7 := Lay.row_len k3
          have e8 := Lay.row_len k4
          dsimp only at e7 e8 k5 k6
          refine (cat56 kLn rfl _ _ W.heap.size A7 A8 n7 n8 c7 c8 pg.body pg.nts (Lay.row_ext k3 hxa) (Lay.row_ext k4 hxa) (by omega) (by omega) (lt_of_block hna) (cell_of hna (i := 0) rfl) (cell_of hna (i := 1) rfl)).mono ?_
          rintro z W' ⟨A9, c9, rfl, ho, hx⟩
          subst hme hLe
          exact ⟨A9, c9, rfl, own_row_all rfl ho, hxa.trans hx⟩)
        have hm2 : m ≤ 2000 := by
          obtain ⟨_, _, k3, k4, k5, k6⟩ := HRP.out
          dsimp only at k5 k6
          rw [← hme, ← hLe, List.length_append]; omega
        have HME := Lib.hid hme
        have HLE := Lib.hid hLe
        clear hxa hna hme hLe
        gi_wp2_with (refine ⟨trivial, ?_⟩; gi_at_call 56; refine (CallsIn.inRound _ (callsIn_wide.2 HCAT.out)).mono ?_; rintro z w1 ⟨A9, c9, rfl, hrow, hx1⟩)
        have HROW := Lib.hid hrow
        have HX1 := Lib.hid hx1
        have HNW := Lib.hid (show lineAt wd (pg.body ++ pg.nts) 0 = lineAt wd L 0 by rw [HLE.out])
        clear hrow hx1 c2 c3 c4 c5 a1 a2 g1 g2
        gi_loopw [34] (fun s34 w' => WhL w1 wd L s34 w') (fun s34 _ => toM m s34)
        case atStart => exact ⟨0, by omega, rfl, Ext.refl _, rfl⟩
        case round =>
          obtain ⟨i, hi, rfl, hxr, hli⟩ := hrel
          have HLI := Lib.hid hli
          have hi2 : i ≤ m := by have := HME.out; omega
          clear hli hi
          have HXW := Lib.hid (HX1.out.trans hxr)
          have HXR := Lib.hid hxr
          clear hxr
          by_cases hlt : i < m
          case neg =>
            have hni : ¬ ((i : Int) < (m : Int)) := by omega
            have HNF := Lib.hid (show lineAt wd L 0 = none by rw [HLI.out, List.drop_of_length_le (by have := HME.out; omega)]; rfl)
            gi_wp2
            have hI := HI.out
            have hxw := HXW.out
            have hs := hI.s
            refine ⟨⟨hxw.block _ (by omega), hxw.block _ (by omega)⟩, fun j hj => hxw.block j (HQS.out j hj), ⟨hI.x.trans hxw, Nat.le_trans hI.s hxw.lt, hI.q, (hxw.block _ (by omega)).trans hI.a1, (hxw.block _ (by omega)).trans hI.a2, (hxw.block _ (by omega)).trans hI.a3, (hxw.block _ (by omega)).trans hI.r4, (hxw.block _ (by omega)).trans hI.r5, (hxw.block _ (by omega)).trans hI.r6, ?_⟩⟩
            rw [List.map_append, whereG_app _ _ _ _ _ hI.n]
            simp only [List.map_cons, List.map_nil, whereG]
            rw [if_neg (by simp [H1.out, H2.out]), HNW.out, HNF.out]
          have hI : (i : Int) < (m : Int) := by omega
          obtain ⟨x, hxi⟩ : ∃ x, L[i]? = some x := ⟨_, List.getElem?_eq_getElem (by have := HME.out; omega)⟩
          obtain ⟨bl, ol, cl, rfl, hbl, _, hrl, hcl⟩ := Lay.row_at (Lay.row_ext HROW.out HXR.out) hxi
          obtain ⟨B1, m1, k1, B2, m2, k2, rfl, _, _, _, _⟩ := kLn_rep.1 hrl
          have e0 := hcl 0 _ rfl
          have e1 := hcl 1 _ rfl
          have e2 := hcl 2 _ rfl
          have e3 := hcl 3 _ rfl
          rw [kLn_sz] at e0 e1 e2 e3
          rw [Nat.add_zero] at e0
          have HST := Lib.hid (show lineAt wd L 0 = if x.fr ≤ wd ∧ wd < x.un then some (i + 1) else lineAt wd (L.drop (i + 1)) (i + 1) by rw [HLI.out, dwl' L hxi]; rfl)
          have a3 := cell_of ((HXW.out.block _ (lt_of_block HA3.out)).trans HA3.out) (i := 0) (u := .int .i64 wd) rfl
          have c0 := cell_of ((HXW.out.block _ (lt_of_block HBX.out)).trans HBX.out) (i := 0) (u := .int .i64 pg.num) rfl
          have c1 := cell_of ((HXW.out.block _ (lt_of_block HBX.out)).trans HBX.out) (i := 1) (u := .int .i64 pg.suf) rfl
          have hR4 := (HXW.out.block _ (lt_of_block HRB.out.1)).trans HRB.out.1
          have hR5 := (HXW.out.block _ (lt_of_block HRB.out.2.1)).trans HRB.out.2.1
          have hR6 := (HXW.out.block _ (lt_of_block HRB.out.2.2)).trans HRB.out.2.2
          have f40 := frozen_of hR4 0
          have f41 := frozen_of hR4 1
          have f50 := frozen_of hR5 0
          have f60 := frozen_of hR6 0
          have r40 := cell_of hR4 (i := 0) (u := .int .i64 0) rfl
          have r41 := cell_of hR4 (i := 1) (u := .int .i64 0) rfl
          have r50 := cell_of hR5 (i := 0) (u := .int .i64 0) rfl
          have r60 := cell_of hR6 (i := 0) (u := .bool false) rfl
          have l4 := lt_of_block hR4
          have l5 := lt_of_block hR5
          have l6 := lt_of_block hR6
          have lA := World.block_lt_of_cell? wr _ a3
          have lB := World.block_lt_of_cell? wr _ c0
          have HRX := Lib.hid (And.intro hR4 (And.intro hR5 hR6))
          clear hxi hrl hcl hR4 hR5 hR6 hi2
          by_cases h1 : x.fr ≤ wd
          · by_cases h2 : wd < x.un
            · have g1 : decide (x.fr ≤ wd) = true := by simpa using h1
              gi_wp2
              obtain ⟨Y, hY⟩ : ∃ Y, ((((wr.setCell ⟨z4, 0, none⟩ (.int .i64 pg.num)).setCell ⟨z4, 1, none⟩ (.int .i64 pg.suf)).setCell ⟨z5, 0, none⟩ (.int .i64 ((i : Int) + 1))).setCell ⟨z6, 0, none⟩ (.bool true)) = Y := ⟨_, rfl⟩
              have hs4 := st4 n45 n46 n56 HRX.out.1 HRX.out.2.1 HRX.out.2.2 (.int .i64 pg.num) (.int .i64 pg.suf) (.int .i64 ((i : Int) + 1)) (.bool true)
              rw [hY] at hs4 ⊢
              obtain ⟨hz1, hz2, hz3, hz4, hz5, hz6, hz7⟩ := HZ.out
              have hI := HI.out
              have hxw := HXW.out
              have hs := hI.s
              have hlw := hxw.lt
              have hxY : Ext w Y := hs4.ext w (by omega) (by omega) (by omega) (hI.x.trans hxw)
              have hbk : ∀ j, j < W.heap.size → j ≠ z4 → j ≠ z5 → j ≠ z6 → (Y.alloc (.cells #[.int .i64 x.fr, .int .i64 x.un, .slice B1 m1 k1, .slice B2 m2 k2] 86)).heap[j]? = W.heap[j]? := fun j hj q4 q5 q6 =>
                (heap_alloc_old _ _ _ (by rw [hs4.size]; omega)).trans ((hs4.keep j q4 q5 q6).trans (hxw.block j hj))
              refine ⟨⟨hbk _ (by omega) (by omega) (by omega) (by omega), hbk _ (by omega) (by omega) (by omega) (by omega)⟩, ⟨rfl, hxY.alloc _, ?_, ⟨pg.num, pg.suf, i + 1, fun R => ?_, ?_, ?_⟩, ?_⟩⟩
              · rw [World.size_alloc, hs4.size]; omega
              · rw [List.map_append, List.append_assoc, whereG_app _ _ _ _ _ hI.n]
                simp only [List.map_cons, List.map_nil, List.cons_append, List.nil_append, whereG]
                rw [if_neg (by simp [H1.out, H2.out]), HNW.out, HST.out, if_pos ⟨h1, h2⟩]
              · rw [← hz4]; exact (heap_alloc_old _ _ _ (lt_of_block hs4.h4)).trans hs4.h4
              · rw [← hz5]; exact (heap_alloc_old _ _ _ (lt_of_block hs4.h5)).trans hs4.h5
              · rw [← hz6]; exact (heap_alloc_old _ _ _ (lt_of_block hs4.h6)).trans hs4.h6
            · have g1 : decide (x.fr ≤ wd) = true := by simpa using h1
              gi_wp2
              exact ⟨⟨i + 1, by have := HME.out; omega, by simp, HXR.out.alloc _, by rw [HST.out, if_neg (by omega)]⟩, by simp only [toM]; omega⟩
          · have g1 : decide (x.fr ≤ wd) = false := by simpa using h1
            gi_wp2
            exact ⟨⟨i + 1, by have := HME.out; omega, by simp, HXR.out.alloc _, by rw [HST.out, if_neg (by omega)]⟩, by simp only [toM]; omega⟩
      · have g1 : (pg.ent != e) = false := by simpa using h1
        have g2 : (pg.ver != v) = true := by simpa using h2
        have H2 := Lib.hid h2
        clear h1 h2
        gi_wp2
        have hI := HI.out
        exact ⟨⟨rfl, rfl⟩, fun _ _ => rfl, ⟨hI.x, hI.s, hI.q, hI.a1, hI.a2, hI.a3, hI.r4, hI.r5, hI.r6, by rw [List.map_append, whereG_app _ _ _ _ _ hI.n]; simp [whereG, H2.out]⟩⟩
    · have g1 : (pg.ent != e) = true := by simpa using h1
      have H1 := Lib.hid h1
      clear h1
      gi_wp2
      have hI := HI.out
      exact ⟨⟨rfl, rfl⟩, fun _ _ => rfl, ⟨hI.x, hI.s, hI.q, hI.a1, hI.a2, hI.a3, hI.r4, hI.r5, hI.r6, by rw [List.map_append, whereG_app _ _ _ _ _ hI.n]; simp [whereG, H1.out]⟩⟩
  case done =>
    intro xs q W hS hI hK
    obtain ⟨hz1, hz2, hz3, hz4, hz5, hz6, hz7⟩ := HZ.out
    have hA1 := hI.a1
    have hA2 := hI.a2
    have hA3 := hI.a3
    have hR4 := hI.r4
    have hR5 := hI.r5
    have hR6 := hI.r6
    rw [← hz1] at hA1
    rw [← hz2] at hA2
    rw [← hz3] at hA3
    rw [← hz4] at hR4
    rw [← hz5] at hR5
    rw [← hz6] at hR6
    have n45 : z4 ≠ z5 := by omega
    have n54 : z5 ≠ z4 := by omega
    have n46 : z4 ≠ z6 := by omega
    have n64 : z6 ≠ z4 := by omega
    have n56 : z5 ≠ z6 := by omega
    have n65 : z6 ≠ z5 := by omega
    clear hz1 hz2 hz3 hz4 hz5 hz6 hz7
    have a1 := cell_of hA1 (i := 0) (u := .int .i64 e) rfl
    have a2 := cell_of hA2 (i := 0) (u := .int .i64 v) rfl
    have a3 := cell_of hA3 (i := 0) (u := .int .i64 wd) rfl
    have f40 := frozen_of hR4 0
    have f41 := frozen_of hR4 1
    have f50 := frozen_of hR5 0
    have f60 := frozen_of hR6 0
    have r40 := cell_of hR4 (i := 0) (u := .int .i64 0) rfl
    have r41 := cell_of hR4 (i := 1) (u := .int .i64 0) rfl
    have r50 := cell_of hR5 (i := 0) (u := .int .i64 0) rfl
    have r60 := cell_of hR6 (i := 0) (u := .bool false) rfl
    have HRB := Lib.hid (And.intro hR4 (And.intro hR5 hR6))
    have HI := Lib.hid hI
    have HK := Lib.hid hK
    clear hI hK hB1 hB2 hB3 hB4 hB5 hB6 hB7 HSEQ hA1 hA2 hA3 hR4 hR5 hR6
    gi_wp2
    go_wp2_with fail
    obtain ⟨Y, hY⟩ : ∃ Y, ((((W.setCell ⟨z4, 0, none⟩ (.int .i64 0)).setCell ⟨z4, 1, none⟩ (.int .i64 0)).setCell ⟨z5, 0, none⟩ (.int .i64 0)).setCell ⟨z6, 0, none⟩ (.bool false)) = Y := ⟨_, rfl⟩
    have hs4 := st4 n45 n46 n56 HRB.out.1 HRB.out.2.1 HRB.out.2.2 (.int .i64 0) (.int .i64 0) (.int .i64 0) (.bool false)
    rw [hY] at hs4 ⊢
    obtain ⟨Z, hZ⟩ : ∃ Z, Y.putObj wl.heap.size (.deferred none) = Z := ⟨_, rfl⟩
    obtain ⟨hz1, hz2, hz3, hz4, hz5, hz6, hz7⟩ := HZ.out
    have hZk : ∀ j, j ≠ wl.heap.size → Z.heap[j]? = Y.heap[j]? := fun j hj => by rw [← hZ]; exact World.putObj_heap_other (by omega)
    have hKY : Y.heap[wl.heap.size]? = some (.deferred (some [])) := (hs4.keep _ (by omega) (by omega) (by omega)).trans HK.out
    have hxZ : Ext w Z := by rw [← hZ]; exact (hs4.ext w (by omega) (by omega) (by omega) HI.out.x).putObj (by omega) _
    have q0 := cell_of ((hZk z4 (by omega)).trans hs4.h4) (i := 0) rfl
    have q1 := cell_of ((hZk z4 (by omega)).trans hs4.h4) (i := 1) rfl
    have q2 := cell_of ((hZk z5 (by omega)).trans hs4.h5) (i := 0) rfl
    have q3 := cell_of ((hZk z6 (by omega)).trans hs4.h6) (i := 0) rfl
    refine ⟨by simp, .inl ⟨_, _, rfl, run_takeDeferred hKY, ?_⟩⟩
    rw [hZ]
    refine ⟨.tuple #[.agg #[.int .i64 0, .int .i64 0], .int .i64 0, .bool false], by simp [results, Tryz.results33, go_sem, q0, q1, q2, q3], .inl ⟨?_, rfl, hxZ⟩⟩
    have := HI.out.n
    rw [hS] at this
    exact this
  case stop =>
    intro cc pre q W hS hX hK
    obtain rfl := hX.c
    have HX := Lib.hid hX
    have HK := Lib.hid hK
    clear hX hK hB1 hB2 hB3 hB4 hB5 hB6 hB7 HSEQ
    gi_wp2
    obtain ⟨Y, hY⟩ : ∃ Y, W = Y := ⟨_, rfl⟩
    rw [hY] at HX HK ⊢
    obtain ⟨Z, hZ⟩ : ∃ Z, Y.putObj wl.heap.size (.deferred none) = Z := ⟨_, rfl⟩
    obtain ⟨hz1, hz2, hz3, hz4, hz5, hz6, hz7⟩ := HZ.out
    have hZk : ∀ j, j ≠ wl.heap.size → Z.heap[j]? = Y.heap[j]? := fun j hj => by rw [← hZ]; exact World.putObj_heap_other (by omega)
    have hXZ : WhX w e v wd .ret pre q Z := by rw [← hZ]; exact HX.out.put hsz (.inr rfl)
    obtain ⟨n, s, i, h1, h4, h5⟩ := hXZ.p
    have h6 := hXZ.b
    rw [← hz4] at h4
    rw [← hz5] at h5
    rw [← hz6] at h6
    have q0 := cell_of h4 (i := 0) rfl
    have q1 := cell_of h4 (i := 1) rfl
    have q2 := cell_of h5 (i := 0) rfl
    have q3 := cell_of h6 (i := 0) rfl
    refine ⟨by simp, .inl ⟨_, _, rfl, run_takeDeferred HK.out, ?_⟩⟩
    rw [hZ]
    refine ⟨.tuple #[.agg #[.int .i64 n, .int .i64 s], .int .i64 i, .bool true], by simp [results, Tryz.results33, go_sem, q0, q1, q2, q3], .inr ⟨n, s, i, ?_, rfl, hXZ.x⟩⟩
    obtain ⟨R, hR⟩ := hS
    show whereG e v wd (pagesB b) = some (n, s, i)
    rw [← hR]
    exact h1 R
end Go.Proofs.YtdbnddmncbjobaaGreatDoor

/- cite.Of: walked. -/
namespace Go.Proofs.YtdbnddmncbjobaaGreatDoor
open Go Go.RowKit

def frzIn (b : Bk) (e : Int) : Bool := b.secs.any fun x => x.ent == e && x.fz
def ofP (b : Bk) (br e v wd : Int) : Option (Int × Int × Nat) := if br < 0 ∨ 256 ≤ br ∨ frzIn b e = false then none else whereP b e v wd
def OfPost (w : World) (b : Bk) (br e v wd : Int) (z : Ending) (w' : World) : Prop :=
  Ext w w' ∧ ((ofP b br e v wd = none ∧ z = .returned (.tuple #[.agg #[.int .i64 0, .int .i64 0, .int .i64 0, .int .i64 0], .bool false])) ∨
    ∃ (n s : Int) (i : Nat), ofP b br e v wd = some (n, s, i) ∧ z = .returned (.tuple #[.agg #[.int .i64 br, .int .i64 n, .int .i64 s, .int .i64 i], .bool true]))
/-- The result's cells. -/
structure CiR (z : Nat) (W : World) : Prop where
  c0 : W.cell? ⟨z, 0, none⟩ = some (.int .i64 0)
  c1 : W.cell? ⟨z, 1, none⟩ = some (.int .i64 0)
  c2 : W.cell? ⟨z, 2, none⟩ = some (.int .i64 0)
  c3 : W.cell? ⟨z, 3, none⟩ = some (.int .i64 0)
  f0 : W.frozen? ⟨z, 0, none⟩ = false
  f1 : W.frozen? ⟨z, 1, none⟩ = false
  f2 : W.frozen? ⟨z, 2, none⟩ = false
  f3 : W.frozen? ⟨z, 3, none⟩ = false
  lt : z < W.heap.size
  ne : ¬ z = W.heap.size
theorem CiR.of {z : Nat} {W : World} (h : W.heap[z]? = some (.cells #[.int .i64 0, .int .i64 0, .int .i64 0, .int .i64 0] 69 (0, 0))) : CiR z W :=
  ⟨cell_of h (i := 0) rfl, cell_of h (i := 1) rfl, cell_of h (i := 2) rfl, cell_of h (i := 3) rfl, frozen_of h 0, frozen_of h 1, frozen_of h 2, frozen_of h 3, lt_of_block h, by have := lt_of_block h; omega⟩
theorem ci_ext {a W : World} (h : Ext a W) {z : Nat} (hz : a.heap.size ≤ z) (v0 v1 v2 v3 : Value) : Ext a ((((W.setCell ⟨z, 0, none⟩ v0).setCell ⟨z, 1, none⟩ v1).setCell ⟨z, 2, none⟩ v2).setCell ⟨z, 3, none⟩ v3) :=
  (((h.setCell (p := ⟨z, 0, none⟩) hz v0).setCell (p := ⟨z, 1, none⟩) hz v1).setCell (p := ⟨z, 2, none⟩) hz v2).setCell (p := ⟨z, 3, none⟩) hz v3
set_option maxHeartbeats 4000000 in
set_option maxRecDepth 100000 in
theorem of_any (P : Nat → Prop) (w : World) (b : Bk) (br e v wd : Int) (A : Option Addr) (N c : Nat) (hb : BkI b) (hr : kSe.row w P A N b.secs) (hL : EnvW w) :
    Calls Tryz.prog 48 #[.agg #[.int .i64 b.ms, .int .i64 b.ht, .slice A N c], .int .i64 br, .int .i64 e, .int .i64 v, .int .i64 wd] w (OfPost w b br e v wd) := by
  have hN : N ≤ 1000000 := by have := Lay.row_len hr; have := hb.s.n; omega
  have HCON := Lib.hid (fun (X : World) (hX : Ext w X) (g : Nat) (hg : X.cell? ⟨g, 0, none⟩ = some (.int .i64 e)) => con96_97 (fun x => x.ent == e && x.fz) P X A N c g b.secs (Lay.row_ext hr hX) hN (fun Y x u v hxy hu hv => clo97 Y g e x u v hu hv (by
    obtain ⟨q, _⟩ := hxy.cells
    exact (q g 0 (World.block_lt_of_cell? X _ hg)).trans hg)))
  have HWH := Lib.hid (fun (X : World) (hX : Ext w X) => where_any P X b e v wd A N c hb (Lay.row_ext hr hX) (hL.ext hX))
  clear hb hr hL hN
  go_enter Tryz.func48, Tryz.ntmps48
  go_upto_region 1 with (fail)
  obtain ⟨w1, hw1⟩ : ∃ w1, ((w.alloc (.cells #[.int .i64 b.ms, .int .i64 b.ht, .slice A N c] 27)).alloc (.cells #[.int .i64 e] 3)).alloc (.cells #[.int .i64 0, .int .i64 0, .int .i64 0, .int .i64 0] 69) = w1 := ⟨_, rfl⟩
  obtain ⟨z0, hz0⟩ : ∃ z, w.heap.size = z := ⟨_, rfl⟩
  have hx1 : Ext w w1 := by rw [← hw1]; exact (((Ext.refl w).alloc _).alloc _).alloc _
  have h0 : w1.heap[z0]? = some (.cells #[.int .i64 b.ms, .int .i64 b.ht, .slice A N c] 27 (0, 0)) := by rw [← hw1, ← hz0, heap_alloc_old _ _ _ (by simp; omega), heap_alloc_old _ _ _ (by simp)]; exact heap_alloc_at _ _ _ _ rfl
  have h1 : w1.heap[z0 + 1]? = some (.cells #[.int .i64 e] 3 (0, 0)) := by rw [← hw1, ← hz0, heap_alloc_old _ _ _ (by simp)]; exact heap_alloc_at _ _ _ _ (by simp)
  have h2 : w1.heap[z0 + 1 + 1]? = some (.cells #[.int .i64 0, .int .i64 0, .int .i64 0, .int .i64 0] 69 (0, 0)) := by rw [← hw1, ← hz0]; exact heap_alloc_at _ _ _ _ (by simp)
  obtain ⟨z2, hz2⟩ : ∃ z, z0 + 1 + 1 = z := ⟨_, rfl⟩
  obtain ⟨z1, hz1⟩ : ∃ z, z0 + 1 = z := ⟨_, rfl⟩
  rw [hz0]
  rw [hw1, hz2, hz1]
  rw [hz1] at h1
  rw [hz2] at h2
  have a0 := cell_of h0 (i := 0) (u := .int .i64 b.ms) rfl
  have a1 := cell_of h0 (i := 1) (u := .int .i64 b.ht) rfl
  have a2 := cell_of h0 (i := 2) (u := .slice A N c) rfl
  have e0 := cell_of h1 (i := 0) (u := .int .i64 e) rfl
  obtain ⟨r, hrr⟩ : ∃ r, b.secs.any (fun x => x.ent == e && x.fz) = r := ⟨_, rfl⟩
  have HC1 := Lib.hid (show Calls Tryz.prog 96 #[.slice A N c, .func (.func 97) #[] #[.pointer (some ⟨z1, 0, none⟩)]] w1 (fun en W' => en = .returned (.bool r) ∧ Ext w1 W') from by rw [← hrr]; exact HCON.out w1 hx1 z1 e0)
  have HX1 := Lib.hid hx1
  have HH := Lib.hid (And.intro h0 (And.intro h1 h2))
  have HZ := Lib.hid (show w.heap.size ≤ z2 by omega)
  have HR := Lib.hid (show frzIn b e = r from hrr)
  clear h0 h1 h2 hx1 hz0 hz1 hz2 hw1 HCON hrr
  go_upto_region 2 with (first | (go_at_call 96; refine (HC1.out).mono ?_; rintro z w2 ⟨rfl, hx2⟩))
  have HF := Lib.hid (fun (X : World) (hX : Ext w1 X) => show CiR z2 X from CiR.of ((hX.block _ (lt_of_block HH.out.2.2)).trans HH.out.2.2))
  obtain ⟨k0, k1, k2, k3, j0, j1, j2, j3, y0, y1⟩ := HF.out w2 hx2
  have HX2 := Lib.hid hx2
  have HXW := Lib.hid (HX1.out.trans hx2)
  have b0 := cell_of ((hx2.block _ (lt_of_block HH.out.1)).trans HH.out.1) (i := 0) (u := .int .i64 b.ms) rfl
  have b1 := cell_of ((hx2.block _ (lt_of_block HH.out.1)).trans HH.out.1) (i := 1) (u := .int .i64 b.ht) rfl
  have b2 := cell_of ((hx2.block _ (lt_of_block HH.out.1)).trans HH.out.1) (i := 2) (u := .slice A N c) rfl
  have b3 := cell_of ((hx2.block _ (lt_of_block HH.out.2.1)).trans HH.out.2.1) (i := 0) (u := .int .i64 e) rfl
  have HW2 := Lib.hid (show Calls Tryz.prog 33 #[.agg #[.int .i64 b.ms, .int .i64 b.ht, .slice A N c], .int .i64 e, .int .i64 v, .int .i64 wd] w2 (fun z w3 => CiR z2 w3 ∧ Ext w w3 ∧ ((whereP b e v wd = none ∧ z = .returned (.tuple #[.agg #[.int .i64 0, .int .i64 0], .int .i64 0, .bool false])) ∨
      ∃ (n s : Int) (i : Nat), whereP b e v wd = some (n, s, i) ∧ z = .returned (.tuple #[.agg #[.int .i64 n, .int .i64 s], .int .i64 i, .bool true]))) from by
    refine (HWH.out w2 HXW.out).mono ?_
    rintro z w3 (⟨h1, rfl, hx⟩ | ⟨n, s, i, h1, rfl, hx⟩)
    · exact ⟨HF.out w3 (HX2.out.trans hx), HXW.out.trans hx, .inl ⟨h1, rfl⟩⟩
    · exact ⟨HF.out w3 (HX2.out.trans hx), HXW.out.trans hx, .inr ⟨n, s, i, h1, rfl⟩⟩)
  clear hx2 a0 a1 a2 e0 HWH
  by_cases q0 : br < 0
  · have HE := Lib.hid (show ofP b br e v wd = none by unfold ofP; rw [if_pos (.inl q0)])
    have g0 : decide (br < 0) = true := by simpa using q0
    go_wp2_with fail
    refine bodyPost_ret (v := .tuple #[.agg #[.int .i64 0, .int .i64 0, .int .i64 0, .int .i64 0], .bool false]) (by simp [results, Tryz.results48, go_sem, *]) rfl ?_
    exact ⟨ci_ext HXW.out HZ.out _ _ _ _, .inl ⟨HE.out, rfl⟩⟩
  have g0 : decide (br < 0) = false := by simpa using q0
  by_cases q1 : 256 ≤ br
  · have HE := Lib.hid (show ofP b br e v wd = none by unfold ofP; rw [if_pos (.inr (.inl q1))])
    have g1 : decide (256 ≤ br) = true := by simpa using q1
    go_wp2_with fail
    refine bodyPost_ret (v := .tuple #[.agg #[.int .i64 0, .int .i64 0, .int .i64 0, .int .i64 0], .bool false]) (by simp [results, Tryz.results48, go_sem, *]) rfl ?_
    exact ⟨ci_ext HXW.out HZ.out _ _ _ _, .inl ⟨HE.out, rfl⟩⟩
  have g1 : decide (256 ≤ br) = false := by simpa using q1
  cases r with
  | false =>
    have HE := Lib.hid (show ofP b br e v wd = none by unfold ofP; rw [if_pos (.inr (.inr HR.out))])
    go_wp2_with fail
    refine bodyPost_ret (v := .tuple #[.agg #[.int .i64 0, .int .i64 0, .int .i64 0, .int .i64 0], .bool false]) (by simp [results, Tryz.results48, go_sem, *]) rfl ?_
    exact ⟨ci_ext HXW.out HZ.out _ _ _ _, .inl ⟨HE.out, rfl⟩⟩
  | true =>
    have HE := Lib.hid (show ofP b br e v wd = whereP b e v wd by unfold ofP; rw [if_neg (by rw [HR.out]; simp; omega)])
    clear k0 k1 k2 k3 j0 j1 j2 j3 y0 y1
    go_upto_region 4 with (fail)
    go_wp2_with (first | (go_at_call 33; refine (HW2.out).mono ?_; rintro z w3 ⟨⟨k0, k1, k2, k3, j0, j1, j2, j3, y0, y1⟩, hx3, (⟨h1, rfl⟩ | ⟨n, s, i, h1, rfl⟩)⟩))
    · refine bodyPost_ret (v := .tuple #[.agg #[.int .i64 0, .int .i64 0, .int .i64 0, .int .i64 0], .bool false]) (by simp [results, Tryz.results48, go_sem, *]) rfl ?_
      exact ⟨(ci_ext hx3 HZ.out _ _ _ _).alloc _, .inl ⟨HE.out.trans h1, rfl⟩⟩
    · refine bodyPost_ret (v := .tuple #[.agg #[.int .i64 br, .int .i64 n, .int .i64 s, .int .i64 i], .bool true]) (by simp [results, Tryz.results48, go_sem, *]) rfl ?_
      exact ⟨(ci_ext hx3 HZ.out _ _ _ _).alloc _, .inr ⟨n, s, i, HE.out.trans h1, rfl⟩⟩
end Go.Proofs.YtdbnddmncbjobaaGreatDoor

/- cite.Find: walked. -/
namespace Go.Proofs.YtdbnddmncbjobaaGreatDoor
open Go Go.RowKit

/-- The page and the line of a citation. -/
def citP (b : Bk) (n s line : Int) : Option (Pg × Ln) := (pageP b n s).bind fun p => if line < 1 then none else ((p.body ++ p.nts)[(line - 1).toNat]?).map fun x => (p, x)
def FindPost (w : World) (b : Bk) (n s line : Int) (z : Ending) (w' : World) : Prop :=
  Ext w w' ∧ ((citP b n s line = none ∧ z = .returned (.tuple #[.agg #[.int .i64 0, .int .i64 0, .int .i64 0, .int .i64 0, .slice none 0 0, .slice none 0 0], .agg #[.int .i64 0, .int .i64 0, .slice none 0 0, .slice none 0 0], .bool false])) ∨
  ∃ (p : Pg) (x : Ln) (A7 : Option Addr) (n7 c7 : Nat) (A8 : Option Addr) (n8 c8 : Nat) (A1 : Option Addr) (n1 c1 : Nat) (A2 : Option Addr) (n2 c2 : Nat), citP b n s line = some (p, x) ∧
    z = .returned (.tuple #[.agg #[.int .i64 p.num, .int .i64 p.suf, .int .i64 p.ent, .int .i64 p.ver, .slice A7 n7 c7, .slice A8 n8 c8], .agg #[.int .i64 x.fr, .int .i64 x.un, .slice A1 n1 c1, .slice A2 n2 c2], .bool true]) ∧
    n7 ≤ c7 ∧ n8 ≤ c8 ∧ kLn.row w' (fun j => w.heap.size ≤ j) A7 n7 p.body ∧ kLn.row w' (fun j => w.heap.size ≤ j) A8 n8 p.nts ∧ kInt.row w' (fun j => w.heap.size ≤ j) A1 n1 x.gaps ∧ kInt.row w' (fun j => w.heap.size ≤ j) A2 n2 x.nts ∧ n1 ≤ c1 ∧ n2 ≤ c2)
/-- The results' cells. -/
structure FiR (z2 z3 : Nat) (W : World) : Prop where
  h2 : W.heap[z2]? = some (.cells #[.int .i64 0, .int .i64 0, .int .i64 0, .int .i64 0, .slice none 0 0, .slice none 0 0] 84 (0, 0))
  h3 : W.heap[z3]? = some (.cells #[.int .i64 0, .int .i64 0, .slice none 0 0, .slice none 0 0] 86 (0, 0))
theorem FiR.ext {z2 z3 : Nat} {W W' : World} (h : FiR z2 z3 W) (hx : Ext W W') : FiR z2 z3 W' := ⟨(hx.block _ (lt_of_block h.h2)).trans h.h2, (hx.block _ (lt_of_block h.h3)).trans h.h3⟩
/-- A page and a line are stored. -/
structure St10 (W Y : World) (z2 z3 : Nat) (cs ds : Array Value) : Prop where
  size : Y.heap.size = W.heap.size
  keep : ∀ j, j ≠ z2 → j ≠ z3 → Y.heap[j]? = W.heap[j]?
  ext : ∀ a : World, a.heap.size ≤ z2 → a.heap.size ≤ z3 → Ext a W → Ext a Y
  h2 : Y.heap[z2]? = some (.cells cs 84 (0, 0))
  h3 : Y.heap[z3]? = some (.cells ds 86 (0, 0))
theorem st10 {W : World} {z2 z3 : Nat} (hne : z2 ≠ z3) {a0 a1 a2 a3 a4 a5 x0 x1 x2 x3 : Value} (h2 : W.heap[z2]? = some (.cells #[a0, a1, a2, a3, a4, a5] 84 (0, 0))) (h3 : W.heap[z3]? = some (.cells #[x0, x1, x2, x3] 86 (0, 0))) (v0 v1 v2 v3 v4 v5 u0 u1 u2 u3 : Value) :
    St10 W ((((((((((W.setCell ⟨z2, 0, none⟩ v0).setCell ⟨z2, 1, none⟩ v1).setCell ⟨z2, 2, none⟩ v2).setCell ⟨z2, 3, none⟩ v3).setCell ⟨z2, 4, none⟩ v4).setCell ⟨z2, 5, none⟩ v5).setCell ⟨z3, 0, none⟩ u0).setCell ⟨z3, 1, none⟩ u1).setCell ⟨z3, 2, none⟩ u2).setCell ⟨z3, 3, none⟩ u3) z2 z3 #[v0, v1, v2, v3, v4, v5] #[u0, u1, u2, u3] := by
  have h9 : ((((((W.setCell ⟨z2, 0, none⟩ v0).setCell ⟨z2, 1, none⟩ v1).setCell ⟨z2, 2, none⟩ v2).setCell ⟨z2, 3, none⟩ v3).setCell ⟨z2, 4, none⟩ v4).setCell ⟨z2, 5, none⟩ v5).heap[z3]? = some (.cells #[x0, x1, x2, x3] 86 (0, 0)) := by
    rw [heap_setCell_other _ ⟨z2, 5, none⟩ z3 _ hne.symm, heap_setCell_other _ ⟨z2, 4, none⟩ z3 _ hne.symm, heap_setCell_other _ ⟨z2, 3, none⟩ z3 _ hne.symm, heap_setCell_other _ ⟨z2, 2, none⟩ z3 _ hne.symm, heap_setCell_other _ ⟨z2, 1, none⟩ z3 _ hne.symm, heap_setCell_other _ ⟨z2, 0, none⟩ z3 _ hne.symm]
    exact h3
  refine ⟨by simp, fun j k2 k3 => ?_, fun a l2 l3 hx => ?_, ?_, ?_⟩
  · rw [heap_setCell_other _ ⟨z3, 3, none⟩ j _ k3, heap_setCell_other _ ⟨z3, 2, none⟩ j _ k3, heap_setCell_other _ ⟨z3, 1, none⟩ j _ k3, heap_setCell_other _ ⟨z3, 0, none⟩ j _ k3, heap_setCell_other _ ⟨z2, 5, none⟩ j _ k2, heap_setCell_other _ ⟨z2, 4, none⟩ j _ k2, heap_setCell_other _ ⟨z2, 3, none⟩ j _ k2, heap_setCell_other _ ⟨z2, 2, none⟩ j _ k2, heap_setCell_other _ ⟨z2, 1, none⟩ j _ k2, heap_setCell_other _ ⟨z2, 0, none⟩ j _ k2]
  · exact ((((((((((hx.setCell (p := ⟨z2, 0, none⟩) l2 _).setCell (p := ⟨z2, 1, none⟩) l2 _).setCell (p := ⟨z2, 2, none⟩) l2 _).setCell (p := ⟨z2, 3, none⟩) l2 _).setCell (p := ⟨z2, 4, none⟩) l2 _).setCell (p := ⟨z2, 5, none⟩) l2 _).setCell (p := ⟨z3, 0, none⟩) l3 _).setCell (p := ⟨z3, 1, none⟩) l3 _).setCell (p := ⟨z3, 2, none⟩) l3 _).setCell (p := ⟨z3, 3, none⟩) l3 _)
  · rw [heap_setCell_other _ ⟨z3, 3, none⟩ z2 _ hne, heap_setCell_other _ ⟨z3, 2, none⟩ z2 _ hne, heap_setCell_other _ ⟨z3, 1, none⟩ z2 _ hne, heap_setCell_other _ ⟨z3, 0, none⟩ z2 _ hne]
    exact (heap_setCell_same _ z2 5 _ 84 _ (heap_setCell_same _ z2 4 _ 84 _ (heap_setCell_same _ z2 3 _ 84 _ (heap_setCell_same _ z2 2 _ 84 _ (heap_setCell_same _ z2 1 _ 84 _ (heap_setCell_same _ z2 0 _ 84 _ h2))))))
  · exact (heap_setCell_same _ z3 3 _ 86 _ (heap_setCell_same _ z3 2 _ 86 _ (heap_setCell_same _ z3 1 _ 86 _ (heap_setCell_same _ z3 0 _ 86 _ h9))))
theorem pagesT_ln (ent ver : Int) (first : Bool) (B : Nat) : ∀ (ps : List (List Ln × List Ln)) (n s : Int), (∀ q ∈ ps, q.1.length ≤ B ∧ q.2.length ≤ B) → ∀ p ∈ (pagesT ent ver first ps n s).1, p.body.length ≤ B ∧ p.nts.length ≤ B := by
  intro ps
  induction ps with
  | nil => intro n s _ p hp; simp [pagesT] at hp
  | cons a ps ih =>
    intro n s h p hp
    simp only [pagesT] at hp
    rcases List.mem_cons.1 hp with rfl | hp
    · exact h a (by simp)
    · exact ih _ _ (fun q hq => h q (by simp [hq])) p hp
theorem pagesV_ln (m h ent : Int) (B : Nat) : ∀ (vs : List Int) (ts : List Tx) (f : Bool) (n s : Int), (∀ t ∈ ts, ∀ q ∈ (textP t m h).2, q.1.length ≤ B ∧ q.2.length ≤ B) → ∀ p ∈ (pagesV m h ent vs ts f n s).1, p.body.length ≤ B ∧ p.nts.length ≤ B := by
  intro vs
  induction vs with
  | nil => intro ts f n s _ p hp; simp [pagesV] at hp
  | cons v vs ih =>
    intro ts f n s hk p hp
    cases ts with
    | nil => simp [pagesV] at hp
    | cons t ts =>
      simp only [pagesV] at hp
      rcases List.mem_append.1 hp with hp | hp
      · exact pagesT_ln _ _ _ B _ _ _ (hk t (by simp)) p hp
      · exact ih ts _ _ _ (fun t ht => hk t (by simp [ht])) p hp
theorem pagesS_ln (m h : Int) (B : Nat) : ∀ (l : List Se) (n : Int), (∀ x ∈ l, ∀ t ∈ x.texts, ∀ q ∈ (textP t m h).2, q.1.length ≤ B ∧ q.2.length ≤ B) → ∀ p ∈ pagesS m h l n, p.body.length ≤ B ∧ p.nts.length ≤ B := by
  intro l
  induction l with
  | nil => intro n _ p hp; simp [pagesS] at hp
  | cons x l ih =>
    intro n hk p hp
    simp only [pagesS] at hp
    rcases List.mem_append.1 hp with hp | hp
    · exact pagesV_ln _ _ _ B _ _ _ _ _ (hk x (by simp)) p hp
    · exact ih _ (fun y hy => hk y (by simp [hy])) p hp
theorem page_ln {b : Bk} (hb : BkI b) {n s : Int} {p : Pg} (h : pageP b n s = some p) : p.body.length ≤ 1000 ∧ p.nts.length ≤ 1000 :=
  pagesS_ln b.ms b.ht 1000 b.secs 0 hb.ln p (List.mem_of_find?_eq_some h)
set_option maxHeartbeats 4000000 in
set_option maxRecDepth 100000 in
theorem find_cite (P : Nat → Prop) (w : World) (b : Bk) (br n s line : Int) (A : Option Addr) (N c : Nat) (hb : BkI b) (hr : kSe.row w P A N b.secs) (hL : EnvW w) (hl0 : -9223372036854775807 ≤ line) (hl1 : line ≤ 9223372036854775807) :
    Calls Tryz.prog 44 #[.agg #[.int .i64 b.ms, .int .i64 b.ht, .slice A N c], .agg #[.int .i64 br, .int .i64 n, .int .i64 s, .int .i64 line]] w (FindPost w b n s line) := by
  have HPG := Lib.hid (fun (X : World) (hX : Ext w X) => page_any P X b n s A N c hb (Lay.row_ext hr hX) (hL.ext hX))
  have HPL := Lib.hid (fun p (hp : pageP b n s = some p) => page_ln hb hp)
  clear hb hr hL
  go_enter Tryz.func44, Tryz.ntmps44
  go_upto_region 1 with (fail)
  obtain ⟨w1, hw1⟩ : ∃ w1, (((w.alloc (.cells #[.int .i64 b.ms, .int .i64 b.ht, .slice A N c] 27)).alloc (.cells #[.int .i64 br, .int .i64 n, .int .i64 s, .int .i64 line] 69)).alloc (.cells #[.int .i64 0, .int .i64 0, .int .i64 0, .int .i64 0, .slice none 0 0, .slice none 0 0] 84)).alloc (.cells #[.int .i64 0, .int .i64 0, .slice none 0 0, .slice none 0 0] 86) = w1 := ⟨_, rfl⟩
  obtain ⟨z0, hz0⟩ : ∃ z, w.heap.size = z := ⟨_, rfl⟩
  have hx1 : Ext w w1 := by rw [← hw1]; exact ((((Ext.refl w).alloc _).alloc _).alloc _).alloc _
  have h0 : w1.heap[z0]? = some (.cells #[.int .i64 b.ms, .int .i64 b.ht, .slice A N c] 27 (0, 0)) := by rw [← hw1, ← hz0, heap_alloc_old _ _ _ (by simp <;> omega), heap_alloc_old _ _ _ (by simp <;> omega), heap_alloc_old _ _ _ (by simp)]; exact heap_alloc_at _ _ _ _ rfl
  have h1 : w1.heap[z0 + 1]? = some (.cells #[.int .i64 br, .int .i64 n, .int .i64 s, .int .i64 line] 69 (0, 0)) := by rw [← hw1, ← hz0, heap_alloc_old _ _ _ (by simp <;> omega), heap_alloc_old _ _ _ (by simp)]; exact heap_alloc_at _ _ _ _ (by simp)
  have hF : FiR (z0 + 1 + 1) (z0 + 1 + 1 + 1) w1 := by
    refine ⟨?_, ?_⟩
    · rw [← hw1, ← hz0, heap_alloc_old _ _ _ (by simp)]; exact heap_alloc_at _ _ _ _ (by simp)
    · rw [← hw1, ← hz0]; exact heap_alloc_at _ _ _ _ (by simp)
  obtain ⟨z3, hz3⟩ : ∃ z, z0 + 1 + 1 + 1 = z := ⟨_, rfl⟩
  obtain ⟨z2, hz2⟩ : ∃ z, z0 + 1 + 1 = z := ⟨_, rfl⟩
  obtain ⟨z1, hz1⟩ : ∃ z, z0 + 1 = z := ⟨_, rfl⟩
  rw [hz0]
  rw [hw1, hz3, hz2, hz1]
  rw [hz3, hz2] at hF
  rw [hz1] at h1
  have hne : z2 ≠ z3 := by omega
  have hne' : z3 ≠ z2 := by omega
  have HZ := Lib.hid (show w.heap.size ≤ z2 ∧ w.heap.size ≤ z3 by omega)
  have a0 := cell_of h0 (i := 0) (u := .int .i64 b.ms) rfl
  have a1 := cell_of h0 (i := 1) (u := .int .i64 b.ht) rfl
  have a2 := cell_of h0 (i := 2) (u := .slice A N c) rfl
  have e1 := cell_of h1 (i := 1) (u := .int .i64 n) rfl
  have e2 := cell_of h1 (i := 2) (u := .int .i64 s) rfl
  have H1 := Lib.hid h1
  have HF := Lib.hid hF
  have HX1 := Lib.hid hx1
  have HP1 := Lib.hid (HPG.out w1 hx1)
  clear h0 h1 hF hx1 hz0 hz1 hz2 hz3 hw1 HPG
  go_upto_region 2 with (first | (go_at_call 91; refine (HP1.out).mono ?_; rintro z w2 (⟨hpn, rfl, hx2⟩ | ⟨p, A7, n7, c7, A8, n8, c8, hps, rfl, hc7, hc8, hr7, hr8, hx2⟩)))
  · have hx3 : Ext w1 (w2.alloc (.cells #[.int .i64 0, .int .i64 0, .int .i64 0, .int .i64 0, .slice none 0 0, .slice none 0 0] 84)) := hx2.alloc _
    have hp3 := heap_alloc_new w2 (.cells #[.int .i64 0, .int .i64 0, .int .i64 0, .int .i64 0, .slice none 0 0, .slice none 0 0] 84)
    have hw23 := (Ext.refl w2).alloc (.cells #[.int .i64 0, .int .i64 0, .int .i64 0, .int .i64 0, .slice none 0 0, .slice none 0 0] 84)
    obtain ⟨w3, hw3⟩ : ∃ w3, w2.alloc (.cells #[.int .i64 0, .int .i64 0, .int .i64 0, .int .i64 0, .slice none 0 0, .slice none 0 0] 84) = w3 := ⟨_, rfl⟩
    obtain ⟨z7, hz7⟩ : ∃ z, w2.heap.size = z := ⟨_, rfl⟩
    rw [hw3] at hx3 hp3 hw23 ⊢
    rw [hz7] at hp3 ⊢
    have hn72 : z7 ≠ z2 := by have := lt_of_block HF.out.h2; have := hx2.lt; omega
    have hn73 : z7 ≠ z3 := by have := lt_of_block HF.out.h3; have := hx2.lt; omega
    have hn27 : z2 ≠ z7 := fun e => hn72 e.symm
    have hn37 : z3 ≠ z7 := fun e => hn73 e.symm
    have e3 := cell_of ((hx3.block _ (lt_of_block H1.out)).trans H1.out) (i := 3) (u := .int .i64 line) rfl
    have hf := HF.out.ext hx3
    have k0 := cell_of hf.h2 (i := 0) (u := .int .i64 0) rfl
    have k1 := cell_of hf.h2 (i := 1) (u := .int .i64 0) rfl
    have k2 := cell_of hf.h2 (i := 2) (u := .int .i64 0) rfl
    have k3 := cell_of hf.h2 (i := 3) (u := .int .i64 0) rfl
    have k4 := cell_of hf.h2 (i := 4) (u := .slice none 0 0) rfl
    have k5 := cell_of hf.h2 (i := 5) (u := .slice none 0 0) rfl
    have f0 := frozen_of hf.h2 0
    have f1 := frozen_of hf.h2 1
    have f2 := frozen_of hf.h2 2
    have f3 := frozen_of hf.h2 3
    have f4 := frozen_of hf.h2 4
    have f5 := frozen_of hf.h2 5
    have m0 := cell_of hf.h3 (i := 0) (u := .int .i64 0) rfl
    have m1 := cell_of hf.h3 (i := 1) (u := .int .i64 0) rfl
    have m2 := cell_of hf.h3 (i := 2) (u := .slice none 0 0) rfl
    have m3 := cell_of hf.h3 (i := 3) (u := .slice none 0 0) rfl
    have g0 := frozen_of hf.h3 0
    have g1 := frozen_of hf.h3 1
    have g2 := frozen_of hf.h3 2
    have g3 := frozen_of hf.h3 3
    have HX3 := Lib.hid (HX1.out.trans hx3)
    have HF3 := Lib.hid hf
    clear hw3 hz7 hx2 hf a0 a1 a2 e1 e2 HP1
    obtain ⟨q, hq⟩ : ∃ q : Int, line - 1 = q := ⟨_, rfl⟩
    have hq0 : -9223372036854775808 ≤ line - 1 := by omega
    have hq1 : line - 1 ≤ 9223372036854775807 := by omega
    have HC := Lib.hid (show citP b n s line = none by unfold citP; rw [hpn]; rfl)
    clear hpn hx3 hp3 hw23
    go_wp2_with fail
    obtain ⟨Y, hY⟩ : ∃ Y, ((((((((((w3.setCell ⟨z2, 0, none⟩ (.int .i64 0)).setCell ⟨z2, 1, none⟩ (.int .i64 0)).setCell ⟨z2, 2, none⟩ (.int .i64 0)).setCell ⟨z2, 3, none⟩ (.int .i64 0)).setCell ⟨z2, 4, none⟩ (.slice none 0 0)).setCell ⟨z2, 5, none⟩ (.slice none 0 0)).setCell ⟨z3, 0, none⟩ (.int .i64 0)).setCell ⟨z3, 1, none⟩ (.int .i64 0)).setCell ⟨z3, 2, none⟩ (.slice none 0 0)).setCell ⟨z3, 3, none⟩ (.slice none 0 0)) = Y := ⟨_, rfl⟩
    have hs := st10 hne HF3.out.h2 HF3.out.h3 (.int .i64 0) (.int .i64 0) (.int .i64 0) (.int .i64 0) (.slice none 0 0) (.slice none 0 0) (.int .i64 0) (.int .i64 0) (.slice none 0 0) (.slice none 0 0)
    rw [hY] at hs ⊢
    have t0 := cell_of hs.h2 (i := 0) rfl
    have t1 := cell_of hs.h2 (i := 1) rfl
    have t2 := cell_of hs.h2 (i := 2) rfl
    have t3 := cell_of hs.h2 (i := 3) rfl
    have t4 := cell_of hs.h2 (i := 4) rfl
    have t5 := cell_of hs.h2 (i := 5) rfl
    have s0 := cell_of hs.h3 (i := 0) rfl
    have s1 := cell_of hs.h3 (i := 1) rfl
    have s2 := cell_of hs.h3 (i := 2) rfl
    have s3 := cell_of hs.h3 (i := 3) rfl
    refine bodyPost_ret (v := .tuple #[.agg #[.int .i64 0, .int .i64 0, .int .i64 0, .int .i64 0, .slice none 0 0, .slice none 0 0], .agg #[.int .i64 0, .int .i64 0, .slice none 0 0, .slice none 0 0], .bool false]) (by simp [results, Tryz.results44, go_sem, t0, t1, t2, t3, t4, t5, s0, s1, s2, s3]) rfl ?_
    exact ⟨hs.ext w HZ.out.1 HZ.out.2 HX3.out, .inl ⟨HC.out, rfl⟩⟩
  · have hx3 : Ext w1 (w2.alloc (.cells #[.int .i64 p.num, .int .i64 p.suf, .int .i64 p.ent, .int .i64 p.ver, .slice A7 n7 c7, .slice A8 n8 c8] 84)) := hx2.alloc _
    have hp3 := heap_alloc_new w2 (.cells #[.int .i64 p.num, .int .i64 p.suf, .int .i64 p.ent, .int .i64 p.ver, .slice A7 n7 c7, .slice A8 n8 c8] 84)
    have hw23 := (Ext.refl w2).alloc (.cells #[.int .i64 p.num, .int .i64 p.suf, .int .i64 p.ent, .int .i64 p.ver, .slice A7 n7 c7, .slice A8 n8 c8] 84)
    obtain ⟨w3, hw3⟩ : ∃ w3, w2.alloc (.cells #[.int .i64 p.num, .int .i64 p.suf, .int .i64 p.ent, .int .i64 p.ver, .slice A7 n7 c7, .slice A8 n8 c8] 84) = w3 := ⟨_, rfl⟩
    obtain ⟨z7, hz7⟩ : ∃ z, w2.heap.size = z := ⟨_, rfl⟩
    rw [hw3] at hx3 hp3 hw23 ⊢
    rw [hz7] at hp3 ⊢
    have hn72 : z7 ≠ z2 := by have := lt_of_block HF.out.h2; have := hx2.lt; omega
    have hn73 : z7 ≠ z3 := by have := lt_of_block HF.out.h3; have := hx2.lt; omega
    have hn27 : z2 ≠ z7 := fun e => hn72 e.symm
    have hn37 : z3 ≠ z7 := fun e => hn73 e.symm
    have e3 := cell_of ((hx3.block _ (lt_of_block H1.out)).trans H1.out) (i := 3) (u := .int .i64 line) rfl
    have hf := HF.out.ext hx3
    have k0 := cell_of hf.h2 (i := 0) (u := .int .i64 0) rfl
    have k1 := cell_of hf.h2 (i := 1) (u := .int .i64 0) rfl
    have k2 := cell_of hf.h2 (i := 2) (u := .int .i64 0) rfl
    have k3 := cell_of hf.h2 (i := 3) (u := .int .i64 0) rfl
    have k4 := cell_of hf.h2 (i := 4) (u := .slice none 0 0) rfl
    have k5 := cell_of hf.h2 (i := 5) (u := .slice none 0 0) rfl
    have f0 := frozen_of hf.h2 0
    have f1 := frozen_of hf.h2 1
    have f2 := frozen_of hf.h2 2
    have f3 := frozen_of hf.h2 3
    have f4 := frozen_of hf.h2 4
    have f5 := frozen_of hf.h2 5
    have m0 := cell_of hf.h3 (i := 0) (u := .int .i64 0) rfl
    have m1 := cell_of hf.h3 (i := 1) (u := .int .i64 0) rfl
    have m2 := cell_of hf.h3 (i := 2) (u := .slice none 0 0) rfl
    have m3 := cell_of hf.h3 (i := 3) (u := .slice none 0 0) rfl
    have g0 := frozen_of hf.h3 0
    have g1 := frozen_of hf.h3 1
    have g2 := frozen_of hf.h3 2
    have g3 := frozen_of hf.h3 3
    have HX3 := Lib.hid (HX1.out.trans hx3)
    have HF3 := Lib.hid hf
    clear hw3 hz7 hx2 hf a0 a1 a2 e1 e2 HP1
    obtain ⟨q, hq⟩ : ∃ q : Int, line - 1 = q := ⟨_, rfl⟩
    have hq0 : -9223372036854775808 ≤ line - 1 := by omega
    have hq1 : line - 1 ≤ 9223372036854775807 := by omega
    obtain ⟨hb1, hb2⟩ := HPL.out p hps
    have e7 := Lay.row_len hr7
    have e8 := Lay.row_len hr8
    have hn7 : n7 ≤ 1000 := by omega
    have hn8 : n8 ≤ 1000 := by omega
    have HE := Lib.hid (And.intro e7 e8)
    have HPS := Lib.hid hps
    have h23 : Ext w2 w3 := hw23
    have HR7 := Lib.hid (Lay.row_ext hr7 h23)
    have HR8 := Lib.hid (Lay.row_ext hr8 h23)
    have p0 := cell_of hp3 (i := 0) (u := .int .i64 p.num) rfl
    have p1 := cell_of hp3 (i := 1) (u := .int .i64 p.suf) rfl
    have p2 := cell_of hp3 (i := 2) (u := .int .i64 p.ent) rfl
    have p3 := cell_of hp3 (i := 3) (u := .int .i64 p.ver) rfl
    have p4 := cell_of hp3 (i := 4) (u := .slice A7 n7 c7) rfl
    have p5 := cell_of hp3 (i := 5) (u := .slice A8 n8 c8) rfl
    clear hps hx3 hp3 h23 hw23 hr7 hr8 e7 e8 hb1 hb2 HPL hq
    by_cases hl : line < 1
    · have HC := Lib.hid (show citP b n s line = none by unfold citP; rw [HPS.out]; exact if_pos hl)
      have hq2 : line - 1 < 0 := by omega
      go_wp2_with fail
      obtain ⟨Y, hY⟩ : ∃ Y, ((((((((((w3.setCell ⟨z2, 0, none⟩ (.int .i64 0)).setCell ⟨z2, 1, none⟩ (.int .i64 0)).setCell ⟨z2, 2, none⟩ (.int .i64 0)).setCell ⟨z2, 3, none⟩ (.int .i64 0)).setCell ⟨z2, 4, none⟩ (.slice none 0 0)).setCell ⟨z2, 5, none⟩ (.slice none 0 0)).setCell ⟨z3, 0, none⟩ (.int .i64 0)).setCell ⟨z3, 1, none⟩ (.int .i64 0)).setCell ⟨z3, 2, none⟩ (.slice none 0 0)).setCell ⟨z3, 3, none⟩ (.slice none 0 0)) = Y := ⟨_, rfl⟩
      have hs := st10 hne HF3.out.h2 HF3.out.h3 (.int .i64 0) (.int .i64 0) (.int .i64 0) (.int .i64 0) (.slice none 0 0) (.slice none 0 0) (.int .i64 0) (.int .i64 0) (.slice none 0 0) (.slice none 0 0)
      rw [hY] at hs ⊢
      have t0 := cell_of hs.h2 (i := 0) rfl
      have t1 := cell_of hs.h2 (i := 1) rfl
      have t2 := cell_of hs.h2 (i := 2) rfl
      have t3 := cell_of hs.h2 (i := 3) rfl
      have t4 := cell_of hs.h2 (i := 4) rfl
      have t5 := cell_of hs.h2 (i := 5) rfl
      have s0 := cell_of hs.h3 (i := 0) rfl
      have s1 := cell_of hs.h3 (i := 1) rfl
      have s2 := cell_of hs.h3 (i := 2) rfl
      have s3 := cell_of hs.h3 (i := 3) rfl
      refine bodyPost_ret (v := .tuple #[.agg #[.int .i64 0, .int .i64 0, .int .i64 0, .int .i64 0, .slice none 0 0, .slice none 0 0], .agg #[.int .i64 0, .int .i64 0, .slice none 0 0, .slice none 0 0], .bool false]) (by simp [results, Tryz.results44, go_sem, t0, t1, t2, t3, t4, t5, s0, s1, s2, s3]) rfl ?_
      exact ⟨hs.ext w HZ.out.1 HZ.out.2 HX3.out, .inl ⟨HC.out, rfl⟩⟩
    obtain ⟨i, hi⟩ : ∃ i : Nat, line - 1 = (i : Int) := ⟨(line - 1).toNat, by omega⟩
    have HI := Lib.hid (show (line - 1).toNat = i by omega)
    have HC := Lib.hid (show citP b n s line = ((p.body ++ p.nts)[i]?).map fun x => (p, x) by
      unfold citP; rw [HPS.out, Option.bind_some, if_neg hl, HI.out])
    have hi0 : ¬ (i : Int) < 0 := by omega
    by_cases h7 : i < n7
    · have gI : decide ((i : Int) < (n7 : Int)) = true := by rw [decide_eq_true_eq]; omega
      have gI2 : decide (i < n7) = true := by simpa using h7
      have hI : ((i : Nat) : Int) < (n7 : Int) := by omega
      obtain ⟨x, hx⟩ : ∃ x, p.body[i]? = some x := ⟨_, List.getElem?_eq_getElem (by have := HE.out.1; have := HE.out.2; omega)⟩
      obtain ⟨bl, ol, cl, rfl, hbl, hPl, hrl, hcl⟩ := Lay.row_at HR7.out hx
      obtain ⟨B1, m1', l1, B2, m2', l2, rfl, hm1, hm2, hg1, hg2⟩ := kLn_rep.1 hrl
      have y0 := hcl 0 _ rfl
      have y1 := hcl 1 _ rfl
      have y2 := hcl 2 _ rfl
      have y3 := hcl 3 _ rfl
      rw [kLn_sz] at y0 y1 y2 y3
      rw [Nat.add_zero] at y0
      have hl2 : bl ≠ z2 := by have := lt_of_block HF.out.h2; omega
      have hl3 : bl ≠ z3 := by have := lt_of_block HF.out.h3; omega
      have hl2' : z2 ≠ bl := fun e => hl2 e.symm
      have hl3' : z3 ≠ bl := fun e => hl3 e.symm
      have HCX := Lib.hid (show citP b n s line = some (p, x) by rw [HC.out, List.getElem?_append_left (by have := HE.out.1; omega), hx]; rfl)
      have HG := Lib.hid (And.intro hg1 hg2)
      clear hrl hcl hx hg1 hg2
      go_upto_region 6 with (fail)
      go_region_held3 (fun W => W.cell? ⟨z7, 0, none⟩ = some (.int .i64 p.num) ∧ W.cell? ⟨z7, 1, none⟩ = some (.int .i64 p.suf) ∧ W.cell? ⟨z7, 2, none⟩ = some (.int .i64 p.ent) ∧ W.cell? ⟨z7, 3, none⟩ = some (.int .i64 p.ver) ∧ W.cell? ⟨z7, 4, none⟩ = some (.slice (some ⟨bl, ol, none⟩) n7 c7) ∧ W.cell? ⟨z7, 5, none⟩ = some (.slice A8 n8 c8) ∧ W.cell? ⟨bl, ol + i * 4, none⟩ = some (.int .i64 x.fr) ∧ W.cell? ⟨bl, ol + i * 4 + 1, none⟩ = some (.int .i64 x.un) ∧ W.cell? ⟨bl, ol + i * 4 + 2, none⟩ = some (.slice B1 m1' l1) ∧ W.cell? ⟨bl, ol + i * 4 + 3, none⟩ = some (.slice B2 m2' l2)) (go_keep) (fail)
      obtain ⟨Y, hY⟩ : ∃ Y, ((((((((((w3.setCell ⟨z2, 0, none⟩ (.int .i64 p.num)).setCell ⟨z2, 1, none⟩ (.int .i64 p.suf)).setCell ⟨z2, 2, none⟩ (.int .i64 p.ent)).setCell ⟨z2, 3, none⟩ (.int .i64 p.ver)).setCell ⟨z2, 4, none⟩ (.slice (some ⟨bl, ol, none⟩) n7 c7)).setCell ⟨z2, 5, none⟩ (.slice A8 n8 c8)).setCell ⟨z3, 0, none⟩ (.int .i64 x.fr)).setCell ⟨z3, 1, none⟩ (.int .i64 x.un)).setCell ⟨z3, 2, none⟩ (.slice B1 m1' l1)).setCell ⟨z3, 3, none⟩ (.slice B2 m2' l2)) = Y := ⟨_, rfl⟩
      have hs := st10 hne HF3.out.h2 HF3.out.h3 (.int .i64 p.num) (.int .i64 p.suf) (.int .i64 p.ent) (.int .i64 p.ver) (.slice (some ⟨bl, ol, none⟩) n7 c7) (.slice A8 n8 c8) (.int .i64 x.fr) (.int .i64 x.un) (.slice B1 m1' l1) (.slice B2 m2' l2)
      rw [hY] at hs ⊢
      have h2d : (Y.drew).heap[z2]? = _ := hs.h2
      have h3d : (Y.drew).heap[z3]? = _ := hs.h3
      have t0 := cell_of h2d (i := 0) rfl
      have t1 := cell_of h2d (i := 1) rfl
      have t2 := cell_of h2d (i := 2) rfl
      have t3 := cell_of h2d (i := 3) rfl
      have t4 := cell_of h2d (i := 4) rfl
      have t5 := cell_of h2d (i := 5) rfl
      have s0 := cell_of h3d (i := 0) rfl
      have s1 := cell_of h3d (i := 1) rfl
      have s2 := cell_of h3d (i := 2) rfl
      have s3 := cell_of h3d (i := 3) rfl
      go_wp2_with fail
      refine bodyPost_ret (v := .tuple #[.agg #[.int .i64 p.num, .int .i64 p.suf, .int .i64 p.ent, .int .i64 p.ver, .slice (some ⟨bl, ol, none⟩) n7 c7, .slice A8 n8 c8], .agg #[.int .i64 x.fr, .int .i64 x.un, .slice B1 m1' l1, .slice B2 m2' l2], .bool true]) (by simp [results, Tryz.results44, go_sem, t0, t1, t2, t3, t4, t5, s0, s1, s2, s3]) rfl ?_
      have hkp : ∀ j, w1.heap.size ≤ j → Y.heap[j]? = w3.heap[j]? := fun j hj => hs.keep j (by have := lt_of_block HF.out.h2; omega) (by have := lt_of_block HF.out.h3; omega)
      exact ⟨(hs.ext w HZ.out.1 HZ.out.2 HX3.out).drew, .inr ⟨p, x, _, _, _, _, _, _, _, _, _, _, _, _, HCX.out, rfl, hc7, hc8, Lay.row_mono (Lay.row_keep HR7.out (by show w3.heap.size ≤ Y.heap.size; rw [hs.size]; exact Nat.le_refl _) fun j hj _ => hkp j hj) fun j hj _ => Nat.le_trans HX1.out.lt hj, Lay.row_mono (Lay.row_keep HR8.out (by show w3.heap.size ≤ Y.heap.size; rw [hs.size]; exact Nat.le_refl _) fun j hj _ => hkp j hj) fun j hj _ => Nat.le_trans HX1.out.lt hj,
        Lay.row_mono (Lay.row_keep HG.out.1 (by show w3.heap.size ≤ Y.heap.size; rw [hs.size]; exact Nat.le_refl _) fun j hj _ => hkp j hj) fun j hj _ => Nat.le_trans HX1.out.lt hj, Lay.row_mono (Lay.row_keep HG.out.2 (by show w3.heap.size ≤ Y.heap.size; rw [hs.size]; exact Nat.le_refl _) fun j hj _ => hkp j hj) fun j hj _ => Nat.le_trans HX1.out.lt hj, hm1, hm2⟩⟩
    obtain ⟨k, rfl⟩ : ∃ k, i = n7 + k := ⟨i - n7, by omega⟩
    have hi' : line - 1 = (n7 : Int) + (k : Int) := by omega
    clear hi
    have gI : decide ((n7 : Int) + (k : Int) < (n7 : Int)) = false := by rw [decide_eq_false_iff_not]; omega
    have hnI : ¬ (n7 : Int) + (k : Int) < (n7 : Int) := by omega
    by_cases h8 : k < n8
    · have gJ : decide ((n7 : Int) + (k : Int) < (n7 : Int) + (n8 : Int)) = true := by rw [decide_eq_true_eq]; omega
      have hJ : (n7 : Int) + (k : Int) < (n7 : Int) + (n8 : Int) := by omega
      have hI : ((k : Nat) : Int) < (n8 : Int) := by omega
      obtain ⟨x, hx⟩ : ∃ x, p.nts[k]? = some x := ⟨_, List.getElem?_eq_getElem (by have := HE.out.1; have := HE.out.2; omega)⟩
      obtain ⟨bl, ol, cl, rfl, hbl, hPl, hrl, hcl⟩ := Lay.row_at HR8.out hx
      obtain ⟨B1, m1', l1, B2, m2', l2, rfl, hm1, hm2, hg1, hg2⟩ := kLn_rep.1 hrl
      have y0 := hcl 0 _ rfl
      have y1 := hcl 1 _ rfl
      have y2 := hcl 2 _ rfl
      have y3 := hcl 3 _ rfl
      rw [kLn_sz] at y0 y1 y2 y3
      rw [Nat.add_zero] at y0
      have hl2 : bl ≠ z2 := by have := lt_of_block HF.out.h2; omega
      have hl3 : bl ≠ z3 := by have := lt_of_block HF.out.h3; omega
      have hl2' : z2 ≠ bl := fun e => hl2 e.symm
      have hl3' : z3 ≠ bl := fun e => hl3 e.symm
      have HCX := Lib.hid (show citP b n s line = some (p, x) by rw [HC.out, List.getElem?_append_right (by have := HE.out.1; omega), show n7 + k - p.body.length = k by have := HE.out.1; omega, hx]; rfl)
      have HG := Lib.hid (And.intro hg1 hg2)
      clear hrl hcl hx hg1 hg2 h7
      go_upto_region 8 with (fail)
      have gS : IntKind.i64.wrap ((n7 : Int) + (k : Int) - (n7 : Int)) = (k : Int) := by rw [show (n7 : Int) + (k : Int) - (n7 : Int) = (k : Int) by omega]; exact IntWalk.i64_in _ (by omega)
      go_region_held3 (fun W => W.cell? ⟨z7, 0, none⟩ = some (.int .i64 p.num) ∧ W.cell? ⟨z7, 1, none⟩ = some (.int .i64 p.suf) ∧ W.cell? ⟨z7, 2, none⟩ = some (.int .i64 p.ent) ∧ W.cell? ⟨z7, 3, none⟩ = some (.int .i64 p.ver) ∧ W.cell? ⟨z7, 4, none⟩ = some (.slice A7 n7 c7) ∧ W.cell? ⟨z7, 5, none⟩ = some (.slice (some ⟨bl, ol, none⟩) n8 c8) ∧ W.cell? ⟨bl, ol + k * 4, none⟩ = some (.int .i64 x.fr) ∧ W.cell? ⟨bl, ol + k * 4 + 1, none⟩ = some (.int .i64 x.un) ∧ W.cell? ⟨bl, ol + k * 4 + 2, none⟩ = some (.slice B1 m1' l1) ∧ W.cell? ⟨bl, ol + k * 4 + 3, none⟩ = some (.slice B2 m2' l2)) (go_keep) (fail)
      obtain ⟨Y, hY⟩ : ∃ Y, ((((((((((w3.setCell ⟨z2, 0, none⟩ (.int .i64 p.num)).setCell ⟨z2, 1, none⟩ (.int .i64 p.suf)).setCell ⟨z2, 2, none⟩ (.int .i64 p.ent)).setCell ⟨z2, 3, none⟩ (.int .i64 p.ver)).setCell ⟨z2, 4, none⟩ (.slice A7 n7 c7)).setCell ⟨z2, 5, none⟩ (.slice (some ⟨bl, ol, none⟩) n8 c8)).setCell ⟨z3, 0, none⟩ (.int .i64 x.fr)).setCell ⟨z3, 1, none⟩ (.int .i64 x.un)).setCell ⟨z3, 2, none⟩ (.slice B1 m1' l1)).setCell ⟨z3, 3, none⟩ (.slice B2 m2' l2)) = Y := ⟨_, rfl⟩
      have hs := st10 hne HF3.out.h2 HF3.out.h3 (.int .i64 p.num) (.int .i64 p.suf) (.int .i64 p.ent) (.int .i64 p.ver) (.slice A7 n7 c7) (.slice (some ⟨bl, ol, none⟩) n8 c8) (.int .i64 x.fr) (.int .i64 x.un) (.slice B1 m1' l1) (.slice B2 m2' l2)
      rw [hY] at hs ⊢
      have h2d : (Y.drew).heap[z2]? = _ := hs.h2
      have h3d : (Y.drew).heap[z3]? = _ := hs.h3
      have t0 := cell_of h2d (i := 0) rfl
      have t1 := cell_of h2d (i := 1) rfl
      have t2 := cell_of h2d (i := 2) rfl
      have t3 := cell_of h2d (i := 3) rfl
      have t4 := cell_of h2d (i := 4) rfl
      have t5 := cell_of h2d (i := 5) rfl
      have s0 := cell_of h3d (i := 0) rfl
      have s1 := cell_of h3d (i := 1) rfl
      have s2 := cell_of h3d (i := 2) rfl
      have s3 := cell_of h3d (i := 3) rfl
      go_wp2_with fail
      refine bodyPost_ret (v := .tuple #[.agg #[.int .i64 p.num, .int .i64 p.suf, .int .i64 p.ent, .int .i64 p.ver, .slice A7 n7 c7, .slice (some ⟨bl, ol, none⟩) n8 c8], .agg #[.int .i64 x.fr, .int .i64 x.un, .slice B1 m1' l1, .slice B2 m2' l2], .bool true]) (by simp [results, Tryz.results44, go_sem, t0, t1, t2, t3, t4, t5, s0, s1, s2, s3]) rfl ?_
      have hkp : ∀ j, w1.heap.size ≤ j → Y.heap[j]? = w3.heap[j]? := fun j hj => hs.keep j (by have := lt_of_block HF.out.h2; omega) (by have := lt_of_block HF.out.h3; omega)
      exact ⟨(hs.ext w HZ.out.1 HZ.out.2 HX3.out).drew, .inr ⟨p, x, _, _, _, _, _, _, _, _, _, _, _, _, HCX.out, rfl, hc7, hc8, Lay.row_mono (Lay.row_keep HR7.out (by show w3.heap.size ≤ Y.heap.size; rw [hs.size]; exact Nat.le_refl _) fun j hj _ => hkp j hj) fun j hj _ => Nat.le_trans HX1.out.lt hj, Lay.row_mono (Lay.row_keep HR8.out (by show w3.heap.size ≤ Y.heap.size; rw [hs.size]; exact Nat.le_refl _) fun j hj _ => hkp j hj) fun j hj _ => Nat.le_trans HX1.out.lt hj,
        Lay.row_mono (Lay.row_keep HG.out.1 (by show w3.heap.size ≤ Y.heap.size; rw [hs.size]; exact Nat.le_refl _) fun j hj _ => hkp j hj) fun j hj _ => Nat.le_trans HX1.out.lt hj, Lay.row_mono (Lay.row_keep HG.out.2 (by show w3.heap.size ≤ Y.heap.size; rw [hs.size]; exact Nat.le_refl _) fun j hj _ => hkp j hj) fun j hj _ => Nat.le_trans HX1.out.lt hj, hm1, hm2⟩⟩
    have gJ : decide ((n7 : Int) + (k : Int) < (n7 : Int) + (n8 : Int)) = false := by rw [decide_eq_false_iff_not]; omega
    have hJ : ¬ (n7 : Int) + (k : Int) < (n7 : Int) + (n8 : Int) := by omega
    have HC0 := Lib.hid (show citP b n s line = none by rw [HC.out, List.getElem?_eq_none (by rw [List.length_append]; have := HE.out.1; have := HE.out.2; omega)]; rfl)
    clear h7
    go_wp2_with fail
    obtain ⟨Y, hY⟩ : ∃ Y, ((((((((((w3.setCell ⟨z2, 0, none⟩ (.int .i64 0)).setCell ⟨z2, 1, none⟩ (.int .i64 0)).setCell ⟨z2, 2, none⟩ (.int .i64 0)).setCell ⟨z2, 3, none⟩ (.int .i64 0)).setCell ⟨z2, 4, none⟩ (.slice none 0 0)).setCell ⟨z2, 5, none⟩ (.slice none 0 0)).setCell ⟨z3, 0, none⟩ (.int .i64 0)).setCell ⟨z3, 1, none⟩ (.int .i64 0)).setCell ⟨z3, 2, none⟩ (.slice none 0 0)).setCell ⟨z3, 3, none⟩ (.slice none 0 0)) = Y := ⟨_, rfl⟩
    have hs := st10 hne HF3.out.h2 HF3.out.h3 (.int .i64 0) (.int .i64 0) (.int .i64 0) (.int .i64 0) (.slice none 0 0) (.slice none 0 0) (.int .i64 0) (.int .i64 0) (.slice none 0 0) (.slice none 0 0)
    rw [hY] at hs ⊢
    have h2d : (Y).heap[z2]? = _ := hs.h2
    have h3d : (Y).heap[z3]? = _ := hs.h3
    have t0 := cell_of h2d (i := 0) rfl
    have t1 := cell_of h2d (i := 1) rfl
    have t2 := cell_of h2d (i := 2) rfl
    have t3 := cell_of h2d (i := 3) rfl
    have t4 := cell_of h2d (i := 4) rfl
    have t5 := cell_of h2d (i := 5) rfl
    have s0 := cell_of h3d (i := 0) rfl
    have s1 := cell_of h3d (i := 1) rfl
    have s2 := cell_of h3d (i := 2) rfl
    have s3 := cell_of h3d (i := 3) rfl
    refine bodyPost_ret (v := .tuple #[.agg #[.int .i64 0, .int .i64 0, .int .i64 0, .int .i64 0, .slice none 0 0, .slice none 0 0], .agg #[.int .i64 0, .int .i64 0, .slice none 0 0, .slice none 0 0], .bool false]) (by simp [results, Tryz.results44, go_sem, t0, t1, t2, t3, t4, t5, s0, s1, s2, s3]) rfl ?_
    exact ⟨hs.ext w HZ.out.1 HZ.out.2 HX3.out, .inl ⟨HC0.out, rfl⟩⟩
end Go.Proofs.YtdbnddmncbjobaaGreatDoor

/- Labels: they are different; the place of a word leads to its page. -/
namespace Go.Proofs.YtdbnddmncbjobaaGreatDoor

/-- a before b. -/
def lblt (a b : Pg) : Prop := a.num < b.num ∨ a.num = b.num ∧ a.suf < b.suf
theorem pagesT_one (ent ver : Int) : ∀ (ps : List (List Ln × List Ln)) (n s : Int), (pagesT ent ver true ps n s).2 = (n + ps.length, s) ∧ (pagesT ent ver true ps n s).1.length = ps.length ∧
    (∀ p ∈ (pagesT ent ver true ps n s).1, n < p.num ∧ p.num ≤ n + ps.length ∧ p.suf = s ∧ p.ent = ent ∧ p.ver = ver) ∧ (pagesT ent ver true ps n s).1.Pairwise lblt := by
  intro ps
  induction ps with
  | nil => intro n s; simp [pagesT]
  | cons p ps ih =>
    intro n s
    simp only [pagesT, if_true]
    obtain ⟨h1, h2, h3, h4⟩ := ih (n + 1) s
    refine ⟨?_, by simp [h2], fun x hx => ?_, ?_⟩
    · rw [h1]; simp only [List.length_cons]; congr 1; omega
    · rcases List.mem_cons.1 hx with rfl | hx
      · simp; omega
      · have := h3 x hx; simp only [List.length_cons]; omega
    · rw [List.pairwise_cons]
      exact ⟨fun x hx => .inl (by have := (h3 x hx).1; simp only; omega), h4⟩
theorem pagesT_more (ent ver : Int) : ∀ (ps : List (List Ln × List Ln)) (n s : Int), (pagesT ent ver false ps n s).2 = (n, s + ps.length) ∧ (pagesT ent ver false ps n s).1.length = ps.length ∧
    (∀ p ∈ (pagesT ent ver false ps n s).1, p.num = n ∧ s < p.suf ∧ p.suf ≤ s + ps.length ∧ p.ent = ent ∧ p.ver = ver) ∧ (pagesT ent ver false ps n s).1.Pairwise lblt := by
  intro ps
  induction ps with
  | nil => intro n s; simp [pagesT]
  | cons p ps ih =>
    intro n s
    simp only [pagesT, Bool.false_eq_true, if_false]
    obtain ⟨h1, h2, h3, h4⟩ := ih n (s + 1)
    refine ⟨?_, by simp [h2], fun x hx => ?_, ?_⟩
    · rw [h1]; simp only [List.length_cons]; congr 1; omega
    · rcases List.mem_cons.1 hx with rfl | hx
      · simp; omega
      · have := h3 x hx; simp only [List.length_cons]; omega
    · rw [List.pairwise_cons]
      exact ⟨fun x hx => .inr (by have := h3 x hx; simp only; omega), h4⟩
/-- The texts of a section, all with so many pages at most. -/
def PgsOk (m h : Int) (K : Nat) (ts : List Tx) : Prop := ∀ t ∈ ts, (textP t m h).2 ≠ [] ∧ (textP t m h).2.length ≤ K
theorem pagesV_more (m h ent : Int) (K : Nat) : ∀ (vs : List Int) (ts : List Tx) (n s : Int), PgsOk m h K ts →
    (pagesV m h ent vs ts false n s).2 = n ∧ (∀ p ∈ (pagesV m h ent vs ts false n s).1, p.num = n ∧ s < p.suf ∧ p.suf ≤ s + (K * ts.length : Nat)) ∧ (pagesV m h ent vs ts false n s).1.Pairwise lblt := by
  intro vs
  induction vs with
  | nil => intro ts n s _; simp [pagesV]
  | cons v vs ih =>
    intro ts n s hk
    cases ts with
    | nil => simp [pagesV]
    | cons t ts =>
      simp only [pagesV]
      obtain ⟨h1, _, h3, h4⟩ := pagesT_more ent v (textP t m h).2 n s
      rw [h1]
      have hK := (hk t (by simp)).2
      obtain ⟨g1, g2, g3⟩ := ih ts n (s + (textP t m h).2.length) fun x hx => hk x (by simp [hx])
      refine ⟨g1, fun p hp => ?_, ?_⟩
      · simp only [List.length_cons, Nat.mul_add, Nat.mul_one]
        rcases List.mem_append.1 hp with hp | hp
        · have := h3 p hp; omega
        · have := g2 p hp; omega
      · rw [List.pairwise_append]
        exact ⟨h4, g3, fun a ha b hb => .inr (by have := h3 a ha; have := g2 b hb; omega)⟩
theorem pagesV_one (m h ent : Int) (K : Nat) : ∀ (vs : List Int) (ts : List Tx) (n : Int), PgsOk m h K ts →
    n ≤ (pagesV m h ent vs ts true n 0).2 ∧ (pagesV m h ent vs ts true n 0).2 ≤ n + K ∧ (∀ p ∈ (pagesV m h ent vs ts true n 0).1, n < p.num ∧ p.num ≤ (pagesV m h ent vs ts true n 0).2 ∧ 0 ≤ p.suf ∧ p.suf ≤ (K * ts.length : Nat)) ∧ (pagesV m h ent vs ts true n 0).1.Pairwise lblt := by
  intro vs ts n hk
  cases vs with
  | nil => simp [pagesV]; omega
  | cons v vs =>
    cases ts with
    | nil => simp [pagesV]; omega
    | cons t ts =>
      simp only [pagesV]
      obtain ⟨h1, _, h3, h4⟩ := pagesT_one ent v (textP t m h).2 n 0
      rw [h1]
      have hK := hk t (by simp)
      have hp : 1 ≤ (textP t m h).2.length := List.length_pos_iff.2 hK.1
      obtain ⟨g1, g2, g3⟩ := pagesV_more m h ent K vs ts (n + (textP t m h).2.length) 0 fun x hx => hk x (by simp [hx])
      rw [g1]
      refine ⟨by omega, by omega, fun p hp => ?_, ?_⟩
      · simp only [List.length_cons, Nat.mul_add, Nat.mul_one]
        rcases List.mem_append.1 hp with hp | hp
        · have := h3 p hp; omega
        · have := g2 p hp; omega
      · rw [List.pairwise_append]
        exact ⟨h4, g3, fun a ha b hb => by
          have h5 := h3 a ha; have h6 := g2 b hb
          by_cases h7 : a.num = n + (textP t m h).2.length
          · exact .inr ⟨by omega, by omega⟩
          · exact .inl (by omega)⟩
theorem pagesS_ok (m h : Int) (K V : Nat) : ∀ (l : List Se) (n : Int), (∀ x ∈ l, PgsOk m h K x.texts ∧ x.texts.length ≤ V) →
    (∀ p ∈ pagesS m h l n, n < p.num ∧ p.num ≤ n + (K * l.length : Nat) ∧ 0 ≤ p.suf ∧ p.suf ≤ (K * V : Nat)) ∧ (pagesS m h l n).Pairwise lblt := by
  intro l
  induction l with
  | nil => intro n _; simp [pagesS]
  | cons x l ih =>
    intro n hk
    simp only [pagesS]
    obtain ⟨h1, h2, h3, h4⟩ := pagesV_one m h x.ent K x.vers x.texts n (hk x (by simp)).1
    obtain ⟨g1, g2⟩ := ih (pagesV m h x.ent x.vers x.texts true n 0).2 fun y hy => hk y (by simp [hy])
    have hV : K * x.texts.length ≤ K * V := Nat.mul_le_mul_left _ (hk x (by simp)).2
    refine ⟨fun p hp => ?_, ?_⟩
    · simp only [List.length_cons, Nat.mul_add, Nat.mul_one]
      rcases List.mem_append.1 hp with hp | hp
      · have := h3 p hp; omega
      · have := g1 p hp; omega
    · rw [List.pairwise_append]
      exact ⟨h4, g2, fun a ha b hb => .inl (by have := h3 a ha; have := g1 b hb; omega)⟩
/-- In a list whose labels grow, the page with the label of a page is that page. -/
theorem find_lab : ∀ (l : List Pg), l.Pairwise lblt → ∀ p ∈ l, l.find? (fun q => decide (q.num = p.num ∧ q.suf = p.suf)) = some p := by
  intro l
  induction l with
  | nil => intro _ p hp; simp at hp
  | cons a l ih =>
    intro hl p hp
    rw [List.pairwise_cons] at hl
    rcases List.mem_cons.1 hp with rfl | hp
    · rw [List.find?_cons_of_pos (by simp)]
    · rw [List.find?_cons_of_neg (by
        have := hl.1 p hp
        unfold lblt at this
        simp only [decide_eq_true_eq]; omega)]
      exact ih hl.2 p hp
theorem lineAt_spec (word : Int) : ∀ (l : List Ln) (i k : Nat), lineAt word l i = some k → i < k ∧ k ≤ i + l.length ∧ ∃ x, l[k - 1 - i]? = some x ∧ x.fr ≤ word ∧ word < x.un := by
  intro l
  induction l with
  | nil => intro i k h; simp [lineAt] at h
  | cons x r ih =>
    intro i k h
    simp only [lineAt] at h
    split at h
    · next hc =>
      injection h with h
      subst h
      exact ⟨by omega, by simp, x, by simp, hc⟩
    · obtain ⟨h1, h2, y, h3, h4⟩ := ih (i + 1) k h
      refine ⟨by omega, by simp; omega, y, ?_, h4⟩
      rw [show k - 1 - i = (k - 1 - (i + 1)) + 1 by omega]
      simpa using h3
theorem whereG_spec (e v w : Int) : ∀ (l : List Pg) (n s : Int) (i : Nat), whereG e v w l = some (n, s, i) → ∃ p ∈ l, p.num = n ∧ p.suf = s ∧ p.ent = e ∧ p.ver = v ∧ lineAt w (p.body ++ p.nts) 0 = some i := by
  intro l
  induction l with
  | nil => intro n s i h; simp [whereG] at h
  | cons p r ih =>
    intro n s i h
    simp only [whereG] at h
    split at h
    · obtain ⟨q, hq, h1⟩ := ih n s i h
      exact ⟨q, by simp [hq], h1⟩
    · next hc =>
      split at h
      · next k hk =>
        injection h with h
        injection h with e1 h
        injection h with e2 e3
        exact ⟨p, by simp, e1, e2, by omega, by omega, by rw [hk, e3]⟩
      · obtain ⟨q, hq, h1⟩ := ih n s i h
        exact ⟨q, by simp [hq], h1⟩
/-- The place of a word: the page, and the line. -/
theorem where_page {b : Bk} {K V : Nat} (hk : ∀ x ∈ b.secs, PgsOk b.ms b.ht K x.texts ∧ x.texts.length ≤ V) {e v w n s : Int} {i : Nat} (h : whereP b e v w = some (n, s, i)) :
    ∃ p ∈ pagesB b, pageP b n s = some p ∧ p.ent = e ∧ p.ver = v ∧ 1 ≤ n ∧ n ≤ (K * b.secs.length : Nat) ∧ 0 ≤ s ∧ s ≤ (K * V : Nat) ∧ 1 ≤ i ∧ i ≤ (p.body ++ p.nts).length ∧ ∃ x, (p.body ++ p.nts)[i - 1]? = some x ∧ x.fr ≤ w ∧ w < x.un := by
  obtain ⟨p, hp, rfl, rfl, h1, h2, h3⟩ := whereG_spec e v w _ n s i h
  obtain ⟨g1, g2⟩ := pagesS_ok b.ms b.ht K V b.secs 0 hk
  have := g1 p hp
  obtain ⟨l1, l2, x, l3, l4⟩ := lineAt_spec w _ 0 i h3
  exact ⟨p, hp, find_lab _ g2 p hp, h1, h2, by omega, by omega, by omega, by omega, by omega, by omega, x, by simpa using l3, l4⟩
end Go.Proofs.YtdbnddmncbjobaaGreatDoor

/- What is added, corrected, struck and frozen leaves the pages that were there. -/
namespace Go.Proofs.YtdbnddmncbjobaaGreatDoor

/-- A book whose labels are different and whose entries are. -/
structure OkK (b : Bk) : Prop where
  pg : ∀ x ∈ b.secs, ∃ K, PgsOk b.ms b.ht K x.texts
  vs : ∀ x ∈ b.secs, x.vers ≠ [] ∧ x.vers.length = x.texts.length
  ent : (b.secs.map (·.ent)).Nodup
theorem pgs_all {b : Bk} (h : ∀ x ∈ b.secs, ∃ K, PgsOk b.ms b.ht K x.texts) : ∃ K V, ∀ x ∈ b.secs, PgsOk b.ms b.ht K x.texts ∧ x.texts.length ≤ V := by
  suffices ∀ l : List Se, (∀ x ∈ l, ∃ K, PgsOk b.ms b.ht K x.texts) → ∃ K V, ∀ x ∈ l, PgsOk b.ms b.ht K x.texts ∧ x.texts.length ≤ V from this _ h
  intro l
  induction l with
  | nil => intro _; exact ⟨0, 0, fun x hx => by simp at hx⟩
  | cons a l ih =>
    intro hl
    obtain ⟨K, V, h1⟩ := ih fun x hx => hl x (by simp [hx])
    obtain ⟨K', h2⟩ := hl a (by simp)
    refine ⟨max K K', max V a.texts.length, fun x hx => ?_⟩
    rcases List.mem_cons.1 hx with rfl | hx
    · exact ⟨fun t ht => ⟨(h2 t ht).1, by have := (h2 t ht).2; omega⟩, by omega⟩
    · exact ⟨fun t ht => ⟨((h1 x hx).1 t ht).1, by have := ((h1 x hx).1 t ht).2; omega⟩, by have := (h1 x hx).2; omega⟩
theorem sorted_of {b : Bk} (h : ∀ x ∈ b.secs, ∃ K, PgsOk b.ms b.ht K x.texts) : (pagesB b).Pairwise lblt := by
  obtain ⟨K, V, hk⟩ := pgs_all h
  exact (pagesS_ok b.ms b.ht K V b.secs 0 hk).2
theorem pagesS_ends (m h : Int) : ∀ (l : List Se) (n : Int), ∃ n', ∀ r, pagesS m h (l ++ r) n = pagesS m h l n ++ pagesS m h r n' := by
  intro l
  induction l with
  | nil => intro n; exact ⟨n, fun r => rfl⟩
  | cons x l ih =>
    intro n
    obtain ⟨n', h'⟩ := ih (pagesV m h x.ent x.vers x.texts true n 0).2
    exact ⟨n', fun r => by simp only [List.cons_append, pagesS, h', List.append_assoc]⟩
theorem pagesT_mem (ent ver : Int) (first : Bool) : ∀ (ps : List (List Ln × List Ln)) (n s : Int), ∀ p ∈ (pagesT ent ver first ps n s).1, p.ent = ent ∧ p.ver = ver := by
  intro ps
  induction ps with
  | nil => intro n s p hp; simp [pagesT] at hp
  | cons q ps ih =>
    intro n s p hp
    simp only [pagesT, List.mem_cons] at hp
    rcases hp with rfl | hp
    · exact ⟨rfl, rfl⟩
    · exact ih _ _ p hp
theorem pagesV_mem (m h ent : Int) : ∀ (vs : List Int) (ts : List Tx) (first : Bool) (n s : Int), ∀ p ∈ (pagesV m h ent vs ts first n s).1, p.ent = ent ∧ p.ver ∈ vs := by
  intro vs
  induction vs with
  | nil => intro ts f n s p hp; simp [pagesV] at hp
  | cons v vs ih =>
    intro ts f n s p hp
    cases ts with
    | nil => simp [pagesV] at hp
    | cons t ts =>
      simp only [pagesV] at hp
      rcases List.mem_append.1 hp with hp | hp
      · have := pagesT_mem ent v f _ _ _ p hp
        exact ⟨this.1, by simp [this.2]⟩
      · have := ih _ _ _ _ p hp
        exact ⟨this.1, by simp [this.2]⟩
theorem pagesS_mem (m h : Int) : ∀ (l : List Se) (n : Int), ∀ p ∈ pagesS m h l n, ∃ x ∈ l, p.ent = x.ent ∧ p.ver ∈ x.vers := by
  intro l
  induction l with
  | nil => intro n p hp; simp [pagesS] at hp
  | cons x l ih =>
    intro n p hp
    simp only [pagesS] at hp
    rcases List.mem_append.1 hp with hp | hp
    · exact ⟨x, by simp, pagesV_mem m h x.ent _ _ _ _ _ p hp⟩
    · obtain ⟨y, hy, h1⟩ := ih _ p hp
      exact ⟨y, by simp [hy], h1⟩
/-- A further version at the end. -/
theorem pagesV_more_app (m h ent : Int) (v : Int) (t : Tx) : ∀ (vs : List Int) (ts : List Tx) (n s : Int), vs.length = ts.length →
    ∃ X, (pagesV m h ent (vs ++ [v]) (ts ++ [t]) false n s).1 = (pagesV m h ent vs ts false n s).1 ++ X ∧ (pagesV m h ent (vs ++ [v]) (ts ++ [t]) false n s).2 = n ∧ (pagesV m h ent vs ts false n s).2 = n ∧ ∀ p ∈ X, p.ent = ent ∧ p.ver = v := by
  intro vs
  induction vs with
  | nil =>
    intro ts n s hl
    obtain rfl : ts = [] := List.eq_nil_of_length_eq_zero (by simpa using hl.symm)
    refine ⟨(pagesT ent v false (textP t m h).2 n s).1, by simp [pagesV], ?_, by simp [pagesV], fun p hp => pagesT_mem ent v false _ _ _ p hp⟩
    simp [pagesV, (pagesT_more ent v (textP t m h).2 n s).1]
  | cons a vs ih =>
    intro ts n s hl
    cases ts with
    | nil => simp at hl
    | cons u ts =>
      have h1 := (pagesT_more ent a (textP u m h).2 n s).1
      obtain ⟨X, g1, g2, g3, g4⟩ := ih ts n (s + (textP u m h).2.length) (by simpa using hl)
      refine ⟨X, ?_, ?_, ?_, g4⟩
      · simp only [List.cons_append, pagesV, h1, g1, List.append_assoc]
      · simp only [List.cons_append, pagesV, h1, g2]
      · simp only [pagesV, h1, g3]
theorem pagesV_app (m h ent : Int) (v : Int) (t : Tx) (vs : List Int) (ts : List Tx) (n : Int) (hl : vs.length = ts.length) (h0 : vs ≠ []) :
    ∃ X, (pagesV m h ent (vs ++ [v]) (ts ++ [t]) true n 0).1 = (pagesV m h ent vs ts true n 0).1 ++ X ∧ (pagesV m h ent (vs ++ [v]) (ts ++ [t]) true n 0).2 = (pagesV m h ent vs ts true n 0).2 ∧ ∀ p ∈ X, p.ent = ent ∧ p.ver = v := by
  cases vs with
  | nil => exact absurd rfl h0
  | cons a vs =>
    cases ts with
    | nil => simp at hl
    | cons u ts =>
      have h1 := (pagesT_one ent a (textP u m h).2 n 0).1
      obtain ⟨X, g1, g2, g3, g4⟩ := pagesV_more_app m h ent v t vs ts (n + (textP u m h).2.length) 0 (by simpa using hl)
      refine ⟨X, ?_, ?_, g4⟩
      · simp only [List.cons_append, pagesV, h1, g1, List.append_assoc]
      · simp only [List.cons_append, pagesV, h1, g2, g3]
theorem whereG_skip (e v w : Int) (X R : List Pg) (hX : ∀ p ∈ X, p.ent ≠ e ∨ p.ver ≠ v) : whereG e v w (X ++ R) = whereG e v w R := by
  induction X with
  | nil => rfl
  | cons p X ih =>
    simp only [List.cons_append, whereG]
    rw [if_pos (hX p (by simp))]
    exact ih fun q hq => hX q (by simp [hq])
theorem whereG_pre (e v w : Int) (A R S : List Pg) (h : whereG e v w R = whereG e v w S) : whereG e v w (A ++ R) = whereG e v w (A ++ S) := by
  induction A with
  | nil => exact h
  | cons p A ih => simp only [List.cons_append, whereG, ih]
theorem whereG_left (e v w : Int) (A R : List Pg) (x : Int × Int × Nat) (h : whereG e v w A = some x) : whereG e v w (A ++ R) = some x := by
  induction A with
  | nil => simp [whereG] at h
  | cons p A ih =>
    simp only [List.cons_append, whereG] at h ⊢
    split at h
    · next hc => rw [if_pos hc]; exact ih h
    · next hc =>
      rw [if_neg hc]
      split at h
      · exact h
      · exact ih h
/-- What was cited stays: the pages of b are pages of b', and the words of a version of an entry stand where they stood. -/
structure Keeps (b b' : Bk) (e v : Int) : Prop where
  page : ∀ n s p, pageP b n s = some p → pageP b' n s = some p
  place : ∀ w x, whereP b e v w = some x → whereP b' e v w = some x
  ok : OkK b'
theorem Keeps.refl {b : Bk} (h : OkK b) (e v : Int) : Keeps b b e v := ⟨fun _ _ _ h => h, fun _ _ h => h, h⟩
theorem Keeps.trans {b c d : Bk} {e v : Int} (h : Keeps b c e v) (k : Keeps c d e v) : Keeps b d e v := ⟨fun n s p hp => k.page n s p (h.page n s p hp), fun w x hw => k.place w x (h.place w x hw), k.ok⟩
theorem page_of_mem {b : Bk} (h : OkK b) {p : Pg} (hp : p ∈ pagesB b) : pageP b p.num p.suf = some p := find_lab _ (sorted_of h.pg) p hp
theorem page_mem {b : Bk} {n s : Int} {p : Pg} (h : pageP b n s = some p) : p ∈ pagesB b ∧ p.num = n ∧ p.suf = s := by
  unfold pageP at h
  have h1 := List.find?_some h
  simp only [decide_eq_true_eq] at h1
  exact ⟨List.mem_of_find?_eq_some h, h1⟩
theorem keeps_of {b b' : Bk} (h' : OkK b') {e v : Int} (hsub : ∀ p ∈ pagesB b, p ∈ pagesB b') (hw : ∀ w x, whereP b e v w = some x → whereP b' e v w = some x) : Keeps b b' e v :=
  ⟨fun n s p hp => by
    obtain ⟨h1, rfl, rfl⟩ := page_mem hp
    exact page_of_mem h' (hsub p h1), hw, h'⟩
theorem keeps_freeze {b : Bk} (h : OkK b) (e v : Int) : Keeps b (frzP b) e v :=
  keeps_of ⟨fun x hx => by
      obtain ⟨y, hy, rfl⟩ := List.mem_map.1 hx
      exact h.pg y hy, fun x hx => by
      obtain ⟨y, hy, rfl⟩ := List.mem_map.1 hx
      exact h.vs y hy, by
      have : (frzP b).secs.map (·.ent) = b.secs.map (·.ent) := by simp [frzP]
      rw [this]; exact h.ent⟩
    (fun p hp => by rw [pagesB_frz]; exact hp) (fun w x hx => by rw [whereP_frz]; exact hx)
/-- A further section. -/
theorem keeps_add {b : Bk} (h : OkK b) (e v : Int) (x : Se) (hx : ∃ K, PgsOk b.ms b.ht K x.texts) (hv : x.vers ≠ [] ∧ x.vers.length = x.texts.length) (hn : ∀ y ∈ b.secs, y.ent ≠ x.ent) : Keeps b { b with secs := b.secs ++ [x] } e v := by
  obtain ⟨n', hp⟩ := pagesS_ends b.ms b.ht b.secs 0
  have hp := hp [x]
  refine keeps_of ⟨fun y hy => ?_, fun y hy => ?_, ?_⟩ (fun p hp' => ?_) (fun w y hw => ?_)
  · simp only [List.mem_append, List.mem_singleton] at hy
    rcases hy with hy | rfl
    · exact h.pg y hy
    · exact hx
  · simp only [List.mem_append, List.mem_singleton] at hy
    rcases hy with hy | rfl
    · exact h.vs y hy
    · exact hv
  · simp only [List.map_append, List.map_cons, List.map_nil]
    rw [List.nodup_append]
    refine ⟨h.ent, by simp, fun a ha b' hb => ?_⟩
    obtain ⟨y, hy, rfl⟩ := List.mem_map.1 ha
    simp only [List.mem_singleton] at hb
    subst hb
    exact hn y hy
  · show p ∈ pagesS b.ms b.ht (b.secs ++ [x]) 0
    rw [hp]; exact List.mem_append_left _ hp'
  · show whereG e v w (pagesS b.ms b.ht (b.secs ++ [x]) 0) = _
    rw [hp]; exact whereG_left e v w _ _ y hw
/-- A further version of a frozen section. -/
theorem keeps_correct {b : Bk} (h : OkK b) (e v v' : Int) (t : Tx) (l r : List Se) (x : Se) (hb : b.secs = l ++ x :: r) (ht : (textP t b.ms b.ht).2 ≠ []) (he : x.ent = e) (hv' : v' ∉ x.vers) :
    Keeps b { b with secs := l ++ { x with vers := x.vers ++ [v'], texts := x.texts ++ [t] } :: r } e v := by
  obtain ⟨n', hp⟩ := pagesS_ends b.ms b.ht l 0
  have hxm : x ∈ b.secs := by rw [hb]; simp
  obtain ⟨X, g1, g2, g3⟩ := pagesV_app b.ms b.ht x.ent v' t x.vers x.texts n' (h.vs x hxm).2 (h.vs x hxm).1
  have e1 : pagesB b = pagesS b.ms b.ht l 0 ++ ((pagesV b.ms b.ht x.ent x.vers x.texts true n' 0).1 ++ pagesS b.ms b.ht r (pagesV b.ms b.ht x.ent x.vers x.texts true n' 0).2) := by
    unfold pagesB; rw [hb, hp]; rfl
  have e2 : pagesB { b with secs := l ++ { x with vers := x.vers ++ [v'], texts := x.texts ++ [t] } :: r } = pagesS b.ms b.ht l 0 ++ ((pagesV b.ms b.ht x.ent x.vers x.texts true n' 0).1 ++ (X ++ pagesS b.ms b.ht r (pagesV b.ms b.ht x.ent x.vers x.texts true n' 0).2)) := by
    unfold pagesB; rw [hp]
    simp only [pagesS]
    rw [g1, g2, List.append_assoc]
  have hnd := h.ent
  rw [hb] at hnd
  refine keeps_of ⟨fun y hy => ?_, fun y hy => ?_, ?_⟩ (fun p hp' => ?_) (fun w y hw => ?_)
  · simp only [List.mem_append, List.mem_cons] at hy
    rcases hy with hy | rfl | hy
    · exact h.pg y (by rw [hb]; simp [hy])
    · obtain ⟨K, hK⟩ := h.pg x hxm
      refine ⟨max K (textP t b.ms b.ht).2.length, fun u hu => ?_⟩
      rcases List.mem_append.1 hu with hu | hu
      · exact ⟨(hK u hu).1, by have := (hK u hu).2; simp only; omega⟩
      · simp only [List.mem_singleton] at hu; subst hu; exact ⟨ht, by simp only; omega⟩
    · exact h.pg y (by rw [hb]; simp [hy])
  · simp only [List.mem_append, List.mem_cons] at hy
    rcases hy with hy | rfl | hy
    · exact h.vs y (by rw [hb]; simp [hy])
    · exact ⟨by simp, by simp [(h.vs x hxm).2]⟩
    · exact h.vs y (by rw [hb]; simp [hy])
  · simpa using hnd
  · rw [e2]
    rw [e1] at hp'
    simp only [List.mem_append] at hp' ⊢
    rcases hp' with h1 | h1 | h1
    · exact .inl h1
    · exact .inr (.inl h1)
    · exact .inr (.inr (.inr h1))
  · unfold whereP at hw ⊢
    rw [e1] at hw
    rw [e2]
    by_cases hvv : v' = v
    · -- then no page is of this version
      exfalso
      obtain ⟨p, hpm, _, _, h1, h2, _⟩ := whereG_spec e v w _ y.1 y.2.1 y.2.2 hw
      rw [← e1] at hpm
      obtain ⟨z, hz, h3, h4⟩ := pagesS_mem b.ms b.ht b.secs 0 p hpm
      have h5 : z.ent = x.ent := by rw [← h3, h1, he]
      rw [hb] at hz
      have hzx : z = x := by
        simp only [List.map_append, List.map_cons] at hnd
        rw [List.nodup_append] at hnd
        obtain ⟨_, n2, n3⟩ := hnd
        rw [List.nodup_cons] at n2
        simp only [List.mem_append, List.mem_cons] at hz
        rcases hz with hz | rfl | hz
        · exact absurd h5 (n3 _ (List.mem_map.2 ⟨z, hz, rfl⟩) _ (by simp))
        · rfl
        · exact absurd (List.mem_map.2 ⟨z, hz, h5⟩) n2.1
      rw [hzx, h2, ← hvv] at h4
      exact hv' h4
    · rw [← hw]
      refine whereG_pre e v w _ _ _ (whereG_pre e v w _ _ _ (whereG_skip e v w X _ fun p hp => .inr ?_))
      rw [(g3 p hp).2]; exact hvv
end Go.Proofs.YtdbnddmncbjobaaGreatDoor

/- Generated books are regular. -/
namespace Go.Proofs.YtdbnddmncbjobaaGreatDoor

/-- A book whose texts are generated ones: at most N sections, at most V texts in each. -/
structure OkB (b : Bk) (N V : Nat) : Prop where
  m0 : 500 ≤ b.ms
  m1 : b.ms ≤ 2000
  h0 : 4 ≤ b.ht
  h1 : b.ht ≤ 100
  n : b.secs.length ≤ N
  vs : ∀ x ∈ b.secs, x.vers.length = x.texts.length ∧ x.vers ≠ [] ∧ x.texts.length ≤ V
  tx : ∀ x ∈ b.secs, ∀ t ∈ x.texts, OkT t
  ent : (b.secs.map (·.ent)).Nodup
theorem pagesT_len (ent v : Int) (f : Bool) : ∀ (ps : List (List Ln × List Ln)) (n s : Int), (pagesT ent v f ps n s).1.length = ps.length := by
  intro ps
  induction ps with
  | nil => intro n s; rfl
  | cons p ps ih => intro n s; simp [pagesT, ih]
theorem pagesV_len (m h ent : Int) (K : Nat) : ∀ (vs : List Int) (ts : List Tx) (f : Bool) (n s : Int), (∀ t ∈ ts, (textP t m h).2.length ≤ K) → (pagesV m h ent vs ts f n s).1.length ≤ K * ts.length := by
  intro vs
  induction vs with
  | nil => intro ts f n s _; simp [pagesV]
  | cons v vs ih =>
    intro ts f n s hk
    cases ts with
    | nil => simp [pagesV]
    | cons t ts =>
      simp only [pagesV, List.length_append, pagesT_len, List.length_cons, Nat.mul_add, Nat.mul_one]
      have h1 := hk t (by simp)
      have h2 := ih ts false (pagesT ent v f (textP t m h).2 n s).2.1 (pagesT ent v f (textP t m h).2 n s).2.2 fun t ht => hk t (by simp [ht])
      omega
theorem pagesS_len (m h : Int) (K V : Nat) : ∀ (l : List Se) (n : Int), (∀ x ∈ l, (∀ t ∈ x.texts, (textP t m h).2.length ≤ K) ∧ x.texts.length ≤ V) → (pagesS m h l n).length ≤ K * V * l.length := by
  intro l
  induction l with
  | nil => intro n _; simp [pagesS]
  | cons x l ih =>
    intro n hk
    simp only [pagesS, List.length_append, List.length_cons, Nat.mul_add, Nat.mul_one]
    have h1 := pagesV_len m h x.ent K x.vers x.texts true n 0 (hk x (by simp)).1
    have h2 := ih (pagesV m h x.ent x.vers x.texts true n 0).2 fun y hy => hk y (by simp [hy])
    have h3 : K * x.texts.length ≤ K * V := Nat.mul_le_mul_left _ (hk x (by simp)).2
    omega
theorem OkT.small {t : Tx} (h : OkT t) : TxS t :=
  ⟨by have := h.np; omega, by have := h.nn; omega, fun p hp => by
    rcases List.mem_append.1 hp with hp | hp
    · have := (h.par.len p hp).2; omega
    · have := (h.len p hp).2; omega⟩
theorem OkB.bkS {b : Bk} {N V : Nat} (h : OkB b N V) (hN : N ≤ 1000000) (hV : V ≤ 1000000) : BkS b.secs :=
  ⟨Nat.le_trans h.n hN, fun x hx => by have := h.vs x hx; omega, fun x hx => by have := h.vs x hx; omega, fun x hx t ht => (h.tx x hx t ht).small⟩
theorem OkB.pgs {b : Bk} {N V : Nat} (h : OkB b N V) : ∀ x ∈ b.secs, PgsOk b.ms b.ht 200 x.texts ∧ x.texts.length ≤ V := fun x hx =>
  ⟨fun t ht => by have := textP_ok (h.tx x hx t ht) h.m0 h.m1 h.h0 h.h1; exact ⟨this.2.1, this.2.2.1⟩, (h.vs x hx).2.2⟩
theorem OkB.np {b : Bk} {N V : Nat} (h : OkB b N V) : (pagesB b).length ≤ 200 * V * N :=
  Nat.le_trans (pagesS_len b.ms b.ht 200 V b.secs 0 fun x hx => ⟨fun t ht => ((h.pgs x hx).1 t ht).2, (h.pgs x hx).2⟩) (Nat.mul_le_mul_left _ h.n)
theorem OkB.bkI {b : Bk} {N V : Nat} (h : OkB b N V) (hN : N ≤ 1000) (hV : 200 * V * N ≤ 1000000) (hV' : V ≤ 1000) : BkI b :=
  ⟨h.bkS (by omega) (by omega), h.m0, h.m1, ⟨by have := h.h0; omega, h.h1⟩, fun x hx => (h.vs x hx).1, fun x hx t ht => txP_of (h.tx x hx t ht) h.m0 h.m1 h.h0 h.h1, Nat.le_trans h.np hV, fun x hx t ht p hp => by
    have h1 := (textP_ok (h.tx x hx t ht) h.m0 h.m1 h.h0 h.h1).2.2.2 p hp
    have := h.h1
    omega⟩
theorem OkB.okK {b : Bk} {N V : Nat} (h : OkB b N V) : OkK b :=
  ⟨fun x hx => ⟨200, (h.pgs x hx).1⟩, fun x hx => ⟨(h.vs x hx).2.1, (h.vs x hx).1⟩, h.ent⟩
theorem OkB.frz {b : Bk} {N V : Nat} (h : OkB b N V) : OkB (frzP b) N V := by
  refine ⟨h.m0, h.m1, h.h0, h.h1, by simpa [frzP] using h.n, fun x hx => ?_, fun x hx => ?_, ?_⟩
  · obtain ⟨y, hy, rfl⟩ := List.mem_map.1 hx; exact h.vs y hy
  · obtain ⟨y, hy, rfl⟩ := List.mem_map.1 hx; exact h.tx y hy
  · have := h.ent
    simpa [frzP, List.map_map, Function.comp_def] using this
end Go.Proofs.YtdbnddmncbjobaaGreatDoor
