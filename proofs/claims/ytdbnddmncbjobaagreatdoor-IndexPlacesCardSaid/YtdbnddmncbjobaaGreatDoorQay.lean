/- A range over a function whose loop variable is laid in a block by the assignment. -/
import Derived.Test.YtdbnddmncbjobaaGreatDoorQax
import Derived.Shelf.Abstract
import Derived.Shelf.RegionOpen
import Derived.OwnWalkIn
import Derived.LoopNIn
import Derived.LoopIn
namespace Go.Proofs.YtdbnddmncbjobaaGreatDoor
section
open Go Go.RowKit

theorem rangeH {α : Type} {F : Fence} {n : Nat} {P : Program} {g : Operand} {ps : Array Tmp} {assign body : Code} {Q : Exit → Act → World → Prop} {a : Act} {w : World}
    (hro : F.round = none) (h1 : 1 ≤ n) {gf : Nat} {lb : Array Value} (hg : a.eval g = .func (.func gf) #[] lb) (hFg : F.fn gf) (eg : ∀ args w, (callFunc gf args).run P w = .ok (.enter gf args) w)
    {encs : α → Array Value} {Rp : (Nat → Prop) → α → World → Prop} {S Sp : List α → Prop} {Q0 : Nat → Prop} (hseq : RSeq F (n - 1) P gf lb encs Rp S Sp Q0 w) (hps : ∀ x, (encs x).size = ps.size)
    (hRp : ∀ q x W l o', Rp q x W → (∀ j, q j → j ≠ l) → Rp q x (W.putObj l o'))
    (I : List α → (Nat → Prop) → World → Prop) (Ix : Code → List α → (Nat → Prop) → World → Prop) (hI : AbMv (w.heap.size + 2) I) (hIx : ∀ c, AbMv (w.heap.size + 2) (Ix c))
    (hIp : ∀ s q W o', I s q W → I s q (W.putObj (w.heap.size + 1) o')) (hIxp : ∀ c s q W o', Ix c s q W → Ix c s q (W.putObj (w.heap.size + 1) o'))
    (_hQ0 : ∀ j, Q0 j → j < w.heap.size) (hIQ : ∀ s q W, I s q W → ∀ j, q j → j ≠ w.heap.size ∧ j ≠ w.heap.size + 1)
    (h0 : ∀ W, Ext w W → W.heap.size = w.heap.size + 2 → I [] Q0 W) (Ax : α → (Nat → Prop) → Act → World → Prop) (hAp : ∀ x q a' W o', Ax x q a' W → Ax x q a' (W.putObj (w.heap.size + 1) o')) (hRx : ∀ q x W W', Rp q x W → Ext W W' → Rp q x W')
    (hassign : ∀ (l : Nat) (x : α) (q : Nat → Prop) (W : World) (K : Act → World → Prop), Rp q x W → w.heap.size + 2 < W.heap.size → (∀ j, q j → j < W.heap.size) → (∀ a' W', Ext W W' → Ax x q a' W' → K a' W') →
      assign.wpIn (F.inRound l) (n - 1 - 1) P (Exit.then K (fun _ _ _ => False)) { tmps := (ps.zip (encs x)).foldl (fun t (p, v) => t.setIfInBounds p v) a.tmps, defers := [] } W)
    (hbody : ∀ (pre : List α) (x : α) (q : Nat → Prop) (a' : Act) (W : World), I pre q W → Rp (fun j => (q j ∧ j ≠ w.heap.size + 2) ∧ w.heap.size ≤ j) x W → Ax x (fun j => (q j ∧ j ≠ w.heap.size + 2) ∧ w.heap.size ≤ j) a' W → (∀ j, q j → j < W.heap.size) → w.heap.size + 2 < W.heap.size → Sp (pre ++ [x]) → body.wpIn (F.inRound (w.heap.size + 1)) (n - 1 - 1) P (rgPost (w.heap.size + 1) w.heap.size q I Ix (pre ++ [x]) W) a' W)
    (hdone : ∀ (xs : List α) (q : Nat → Prop) (W : World), S xs → I xs q W → W.heap[w.heap.size]? = some (.deferred (some [])) → Q .normal { a with defers := { target := .collected w.heap.size, args := #[] } :: a.defers } W)
    (hstop : ∀ (c : Code) (pre : List α) (q : Nat → Prop) (W : World), Sp pre → Ix c pre q W → W.heap[w.heap.size]? = some (.deferred (some [])) → c.wpIn F n P Q { a with defers := { target := .collected w.heap.size, args := #[] } :: a.defers } W) :
    (Code.rangeFunc g ps assign body).wpIn F n P Q a w := by
  refine wpIn_rangeFunc ?_
  intro fn hfn
  rw [hro]
  obtain ⟨rec, hrec⟩ : ∃ rec : LoopState → Option Code → Loop, rec = fun st pe => { state := st, pending := pe, fn, tmps := a.tmps, params := ps, assign, body, defers := w.heap.size } := ⟨_, rfl⟩
  obtain ⟨W1, hW1⟩ : ∃ W1, (w.alloc (.deferred (some []))).alloc (.loop (rec .ready none)) = W1 := ⟨_, rfl⟩
  have hx1 : Ext w W1 := by rw [← hW1]; exact ((Ext.refl w).alloc _).alloc _
  have hs1 : W1.heap.size = w.heap.size + 2 := by rw [← hW1]; simp
  have hL1 : W1.heap[w.heap.size + 1]? = some (.loop (rec .ready none)) := by
    rw [← hW1]; have := World.alloc_heap_new (w.alloc (.deferred (some []))) (.loop (rec .ready none)); rwa [World.size_alloc] at this
  have hK1 : W1.heap[w.heap.size]? = some (.deferred (some [])) := by
    rw [← hW1]; exact (Below.heap_alloc _ _ _ (by simp)).trans (World.alloc_heap_new w _)
  refine ⟨w.heap.size + 1, [{ target := .collected w.heap.size, args := #[] }], W1, { target := .fn (.func gf) lb, args := #[.func (.yield (w.heap.size + 1)) #[] #[]] }, W1, gf,
    #[.func (.yield (w.heap.size + 1)) #[] #[]] ++ lb, W1, ?_, ?_, ?_, ?_, fun _ => h1, ?_⟩
  · rw [← hW1, hrec]; exact run_enterLoop_outer _ _ _ _ _
  · simp only [resolve, hg]
    simp [go_sem]
  · intro f' hf'; simp [Target.leads] at hf'; subst hf'; exact hFg
  · simp [invoke, go_sem, eg]
  · have hne : ∀ {A B : World} {k : Nat} {o : Obj}, k < w.heap.size + 2 → Mv W1.heap.size A B → A.heap[k]? = some o → B.heap[k]? = some o := fun hk hm ho => hm.blk (by omega) ho
    refine (hseq (w.heap.size + 1)
      (fun pre q W => I pre q W ∧ W.heap[w.heap.size + 1]? = some (.loop (rec .ready none)) ∧ W.heap[w.heap.size]? = some (.deferred (some [])))
      (fun pre q W => ∃ c, Ix c pre q W ∧ W.heap[w.heap.size + 1]? = some (.loop (rec .done (some c))) ∧ W.heap[w.heap.size]? = some (.deferred (some [])))
      W1 hx1.lt (fun j hj => hx1.block j hj) hx1
      (fun s q q' A B hs hm hq => ⟨hI s q q' A B hs.1 (by rw [← hs1]; exact hm) (by rw [← hs1]; exact hq), hne (by omega) hm hs.2.1, hne (by omega) hm hs.2.2⟩)
      (fun s q q' A B hs hm hq => by
        obtain ⟨c, hc, hl, hk⟩ := hs
        exact ⟨c, hIx c s q q' A B hc (by rw [← hs1]; exact hm) (by rw [← hs1]; exact hq), hne (by omega) hm hl, hne (by omega) hm hk⟩)
      ?_ ⟨h0 W1 hx1 hs1, hL1, hK1⟩).mono ?_
    · rintro pre x q W ⟨hi, hl, hk⟩ hrp hqs hlen hsp
      have hlt : w.heap.size + 1 < W.heap.size := (Array.getElem?_eq_some_iff.1 hl).1
      have hq1 := hIQ _ _ _ hi
      have hy := run_yield (P := P) (args := encs x) hl (by rw [hrec]; exact hps x)
      rw [hrec] at hy
      refine ⟨fn, _, assign, body, hy, roundIn_of_wpIn hfn (hassign _ x (fun j => (q j ∧ j ≠ w.heap.size + 2) ∧ w.heap.size ≤ j) W _ (by rw [← hs1]; exact hrp) (by rw [← hs1]; exact hlen) (fun j hj => hqs j hj.1.1) fun a' W' hx hax => ?_)⟩
      have hl' : W'.heap[w.heap.size + 1]? = some (.loop (rec .ready none)) := (hx.block _ hlt).trans hl
      have hk' : W'.heap[w.heap.size]? = some (.deferred (some [])) := (hx.block _ (by omega)).trans hk
      have hlt' : w.heap.size + 1 < W'.heap.size := Nat.lt_of_lt_of_le hlt hx.lt
      refine ⟨_, run_beginRound hl' (by rw [hrec]), ?_⟩
      obtain ⟨W2, hW2⟩ : ∃ W2, W2 = W'.putObj (w.heap.size + 1) (.loop { rec .ready none with state := .busy }) := ⟨_, rfl⟩
      rw [← hW2]
      have hl2 : W2.heap[w.heap.size + 1]? = some (.loop { rec .ready none with state := .busy }) := by rw [hW2]; exact World.putObj_heap_same hlt'
      have hk2 : W2.heap[w.heap.size]? = some (.deferred (some [])) := by rw [hW2]; exact (World.putObj_heap_other (by omega)).trans hk'
      have hq2 : ∀ j, q j → W2.heap[j]? = W.heap[j]? := fun j hj => by rw [hW2]; exact (World.putObj_heap_other (hq1 j hj).2).trans (hx.block j (hqs j hj))
      have hsz2 : W2.heap.size = W'.heap.size := by rw [hW2]; simp
      have hi' : I pre q W' := hI _ _ _ _ _ hi (Mv.of_ext hx) fun j hj => .inl hj
      refine wpIn_mono (hbody pre x q a' W2 (by rw [hW2]; exact hIp _ _ _ _ hi') (by rw [hW2]; exact hRp _ _ _ _ _ (hRx _ _ _ _ (by rw [← hs1]; exact hrp) hx) fun j hj => (hq1 j hj.1.1).2) (by rw [hW2]; exact hAp _ _ _ _ _ hax) (fun j hj => by rw [hsz2]; exact Nat.lt_of_lt_of_le (hqs j hj) hx.lt) (by rw [hsz2, ← hs1]; exact Nat.lt_of_lt_of_le hlen hx.lt) hsp) ?_
      have fin : ∀ (jump : Option Code) (W3 : World), W3.heap[w.heap.size + 1]? = W2.heap[w.heap.size + 1]? → W3.heap[w.heap.size]? = W2.heap[w.heap.size]? →
          (Instr.endRound (w.heap.size + 1) jump).run P W3 = .ok (.bool jump.isNone) (W3.putObj (w.heap.size + 1) (.loop (rec (if jump.isNone then .ready else .done) jump))) ∧
          (W3.putObj (w.heap.size + 1) (.loop (rec (if jump.isNone then .ready else .done) jump))).heap[w.heap.size + 1]? = some (.loop (rec (if jump.isNone then .ready else .done) jump)) ∧
          (W3.putObj (w.heap.size + 1) (.loop (rec (if jump.isNone then .ready else .done) jump))).heap[w.heap.size]? = some (.deferred (some [])) := fun jump W3 e1 e2 => by
        have hl3 := e1.trans hl2
        have := run_endRound (P := P) jump hl3
        rw [hrec] at this ⊢
        exact ⟨this, World.putObj_heap_same (Array.getElem?_eq_some_iff.1 hl3).1, (World.putObj_heap_other (by omega)).trans (e2.trans hk2)⟩
      rintro e a3 W3 hp
      cases e with
      | normal =>
        obtain ⟨⟨hk3, hd3⟩, hq3, hi3⟩ := hp
        obtain ⟨hr, hl4, hk4⟩ := fin none W3 hk3 hd3
        exact ⟨_, _, hr, .inl ⟨rfl, ⟨hIp _ _ _ _ hi3, hl4, hk4⟩, fun j hj => (World.putObj_heap_other (hq1 j hj).2).trans ((hq3 j hj).trans (hq2 j hj))⟩⟩
      | ret =>
        obtain ⟨⟨hk3, hd3⟩, hi3⟩ := hp
        obtain ⟨hr, hl4, hk4⟩ := fin (some .ret) W3 hk3 hd3
        exact ⟨_, _, hr, .inr ⟨rfl, .ret, hIxp _ _ _ _ _ hi3, hl4, hk4⟩⟩
      | exit id =>
        obtain ⟨⟨hk3, hd3⟩, hi3⟩ := hp
        obtain ⟨hr, hl4, hk4⟩ := fin (some (.exit id)) W3 hk3 hd3
        exact ⟨_, _, hr, .inr ⟨rfl, .exit id, hIxp _ _ _ _ _ hi3, hl4, hk4⟩⟩
      | goto t =>
        obtain ⟨⟨hk3, hd3⟩, hi3⟩ := hp
        obtain ⟨hr, hl4, hk4⟩ := fin (some (.goto t)) W3 hk3 hd3
        exact ⟨_, _, hr, .inr ⟨rfl, .goto t, hIxp _ _ _ _ _ hi3, hl4, hk4⟩⟩
      | panic ch => exact hp.elim
      | outgrown => exact hp.elim
    · rintro e W2 ⟨⟨v, rfl⟩, (⟨xs, q, hS, hi, hl, hk⟩ | ⟨pre, q, hSp, c, hi, hl, hk⟩)⟩
      · exact ⟨none, _, by have := run_endLoop (P := P) hl (by rw [hrec]; simp); rw [hrec] at this; exact this, hdone xs q _ hS (hIp _ _ _ _ hi) ((World.putObj_heap_other (by omega)).trans hk)⟩
      · exact ⟨some c, _, by have := run_endLoop (P := P) hl (by rw [hrec]; simp); rw [hrec] at this; exact this, hstop c pre q _ hSp (hIxp _ _ _ _ _ hi) ((World.putObj_heap_other (by omega)).trans hk)⟩
end
section
open Go Go.RowKit Go.Shelf
attribute [local go_sem] Oper.semAt_some

theorem Ext.putObj {a W : World} (h : Ext a W) {k : Nat} (hk : a.heap.size ≤ k) (o : Obj) : Ext a (W.putObj k o) :=
  ⟨h.os, h.tape, h.output, by simpa using h.size, fun j hj => (World.putObj_heap_other (by omega)).trans (h.block j hj)⟩
theorem EnvW.lt4 {w : World} (h : EnvW w) : 4 < w.heap.size := by
  have h1 := h w (Ext.refl w)
  have hg : Tryz.prog.globalNamed "rollbook/glyph.widths" = some 4 := by kernel_rfl
  unfold World.var? at h1
  rw [hg] at h1
  simp only [Option.bind_some] at h1
  rcases Nat.lt_or_ge 4 w.heap.size with h9 | h9
  · exact h9
  · rw [Array.getElem?_eq_none h9] at h1
    exact absurd h1 (by simp)
def PagePost (w : World) (b : Bk) (num suf : Int) (e : Ending) (w' : World) : Prop :=
  (pageP b num suf = none ∧ e = .returned (.tuple #[.agg #[.int .i64 0, .int .i64 0, .int .i64 0, .int .i64 0, .slice none 0 0, .slice none 0 0], .bool false]) ∧ Ext w w') ∨
  ∃ (p : Pg) (A7 : Option Addr) (n7 c7 : Nat) (A8 : Option Addr) (n8 c8 : Nat), pageP b num suf = some p ∧ e = .returned (.tuple #[.agg #[.int .i64 p.num, .int .i64 p.suf, .int .i64 p.ent, .int .i64 p.ver, .slice A7 n7 c7, .slice A8 n8 c8], .bool true]) ∧
    n7 ≤ c7 ∧ n8 ≤ c8 ∧ kLn.row w' (fun j => w.heap.size ≤ j) A7 n7 p.body ∧ kLn.row w' (fun j => w.heap.size ≤ j) A8 n8 p.nts ∧ Ext w w'
theorem heap_alloc_old (W : World) (o : Obj) (j : Nat) (h : j < W.heap.size) : (W.alloc o).heap[j]? = W.heap[j]? := Below.heap_alloc _ _ _ h
theorem heap_alloc_at (W : World) (cs : Array Value) (t : TypeId) (j : Nat) (h : j = W.heap.size) : (W.alloc (.cells cs t)).heap[j]? = some (.cells cs t (0, 0)) := by subst h; exact heap_alloc_new _ _
theorem pgRp_ext {q : Nat → Prop} {x : PgV} {W W' : World} (h : pgRp q x W) (hx : Ext W W') : pgRp q x W' := ⟨h.1, h.2.1, Lay.row_ext h.2.2.1 hx, Lay.row_ext h.2.2.2.1 hx, h.2.2.2.2⟩
theorem pgRp_put {q : Nat → Prop} {x : PgV} {W : World} {l : Nat} {o : Obj} (h : pgRp q x W) (hq : ∀ j, q j → j ≠ l) : pgRp q x (W.putObj l o) :=
  ⟨h.1, h.2.1, Lay.row_keep h.2.2.1 (by simp) fun j hj _ => World.putObj_heap_other (hq j hj), Lay.row_keep h.2.2.2.1 (by simp) fun j hj _ => World.putObj_heap_other (hq j hj), h.2.2.2.2⟩
def pgCells (p : Pg) (A7 : Option Addr) (n7 c7 : Nat) (A8 : Option Addr) (n8 c8 : Nat) : Array Value := #[.int .i64 p.num, .int .i64 p.suf, .int .i64 p.ent, .int .i64 p.ver, .slice A7 n7 c7, .slice A8 n8 c8]
def lbIs (num suf : Int) (p : Pg) : Bool := decide (p.num = num ∧ p.suf = suf)
/-- Between two rounds: no page has had the label. -/
structure PgI (w : World) (num suf : Int) (pre : List PgV) (q : Nat → Prop) (W : World) : Prop where
  x : Ext w W
  s : w.heap.size + 7 ≤ W.heap.size
  q : ∀ j, q j → j < w.heap.size ∨ j = w.heap.size + 4 ∨ w.heap.size + 7 ≤ j
  l : W.heap[w.heap.size + 1]? = some (.cells #[.int .i64 num, .int .i64 suf] 64 (0, 0))
  r : W.heap[w.heap.size + 2]? = some (.cells (pgCells ⟨0, 0, 0, 0, [], []⟩ none 0 0 none 0 0) 84 (0, 0))
  b : W.heap[w.heap.size + 3]? = some (.cells #[.bool false] 4 (0, 0))
  n : (pre.map (·.1)).find? (lbIs num suf) = none
/-- A page has had it. -/
structure PgX (w : World) (num suf : Int) (c : Code) (pre : List PgV) (q : Nat → Prop) (W : World) : Prop where
  c : c = .ret
  x : Ext w W
  s : w.heap.size + 8 ≤ W.heap.size
  p : ∃ (p : Pg) (A7 : Option Addr) (n7 c7 : Nat) (A8 : Option Addr) (n8 c8 : Nat), (pre.map (·.1)).find? (lbIs num suf) = some p ∧ n7 ≤ c7 ∧ n8 ≤ c8 ∧
    kLn.row W (fun j => w.heap.size + 8 ≤ j) A7 n7 p.body ∧ kLn.row W (fun j => w.heap.size + 8 ≤ j) A8 n8 p.nts ∧
    W.heap[w.heap.size + 2]? = some (.cells (pgCells p A7 n7 c7 A8 n8 c8) 84 (0, 0))
  b : W.heap[w.heap.size + 3]? = some (.cells #[.bool true] 4 (0, 0))
theorem PgI.ab {w wl : World} {num suf : Int} (hs : wl.heap.size = w.heap.size + 5) : AbMv (wl.heap.size + 2) (PgI w num suf) := by
  intro s Q Q' A B h hm hg
  have hsz := h.s
  refine ⟨hm.ext w (by omega) h.x, Nat.le_trans h.s hm.size, fun j hj => ?_, hm.blk (by omega) h.l, hm.blk (by omega) h.r, hm.blk (by omega) h.b, h.n⟩
  rcases hg j hj with h1 | h1 | h1
  · exact h.q j h1
  · omega
  · omega
theorem PgI.put {w wl : World} {num suf : Int} (hs : wl.heap.size = w.heap.size + 5) {s : List PgV} {q : Nat → Prop} {W : World} {o : Obj} (h : PgI w num suf s q W) : PgI w num suf s q (W.putObj (wl.heap.size + 1) o) :=
  ⟨h.x.putObj (by omega) o, by simpa using h.s, h.q, (World.putObj_heap_other (by omega)).trans h.l, (World.putObj_heap_other (by omega)).trans h.r, (World.putObj_heap_other (by omega)).trans h.b, h.n⟩
theorem PgX.ab {w wl : World} {num suf : Int} (hs : wl.heap.size = w.heap.size + 5) (c : Code) : AbMv (wl.heap.size + 2) (PgX w num suf c) := by
  intro s Q Q' A B h hm hg
  obtain ⟨p, A7, n7, c7, A8, n8, c8, h1, h2, h3, h4, h5, h6⟩ := h.p
  have hsz := h.s
  exact ⟨h.c, hm.ext w (by omega) h.x, Nat.le_trans h.s hm.size, ⟨p, A7, n7, c7, A8, n8, c8, h1, h2, h3, Lay.row_keep h4 hm.size fun j hj hl => hm.keep j (by omega) hl, Lay.row_keep h5 hm.size fun j hj hl => hm.keep j (by omega) hl, hm.blk (by omega) h6⟩, hm.blk (by omega) h.b⟩
theorem PgX.put {w wl : World} {num suf : Int} (hs : wl.heap.size = w.heap.size + 5) {c : Code} {s : List PgV} {q : Nat → Prop} {W : World} {k : Nat} {o : Obj} (hk : k = wl.heap.size + 1 ∨ k = wl.heap.size) (h : PgX w num suf c s q W) : PgX w num suf c s q (W.putObj k o) := by
  obtain ⟨p, A7, n7, c7, A8, n8, c8, h1, h2, h3, h4, h5, h6⟩ := h.p
  exact ⟨h.c, h.x.putObj (by omega) o, by simpa using h.s, ⟨p, A7, n7, c7, A8, n8, c8, h1, h2, h3, Lay.row_keep h4 (by simp) fun j hj hl => World.putObj_heap_other (by omega), Lay.row_keep h5 (by simp) fun j hj hl => World.putObj_heap_other (by omega), (World.putObj_heap_other (by omega)).trans h6⟩, (World.putObj_heap_other (by omega)).trans h.b⟩
def PgAx (w : World) (z1 z2 z3 z4 : Nat) (b : Bk) (num suf : Int) (A : Option Addr) (N c : Nat) (x : PgV) (_ : Nat → Prop) (a' : Act) (W : World) : Prop :=
  ∃ Bx, w.heap.size + 7 < Bx ∧ W.heap[Bx]? = some (.cells (pgCells x.1 x.2.1.1 x.2.1.2.1 x.2.1.2.2 x.2.2.1 x.2.2.2.1 x.2.2.2.2) 84 (0, 0)) ∧
    a' = { tmps := #[.agg #[.int .i64 b.ms, .int .i64 b.ht, .slice A N c], .agg #[.int .i64 num, .int .i64 suf], .pointer (some ⟨w.heap.size, 0, none⟩), .pointer (some ⟨z1, 0, none⟩), .pointer (some ⟨z2, 0, none⟩), .pointer (some ⟨z3, 0, none⟩), .pointer (some ⟨Bx, 0, none⟩),
      .agg #[.int .i64 b.ms, .int .i64 b.ht, .slice A N c], .func (.func 126) #[] #[.pointer (some ⟨z4, 0, none⟩)], .agg (pgCells x.1 x.2.1.1 x.2.1.2.1 x.2.1.2.2 x.2.2.1 x.2.2.2.1 x.2.2.2.2), undef, undef, undef, undef, undef, undef], defers := [] }
/-- A page and a bool are stored. -/
structure St6 (W Y : World) (z2 z3 : Nat) (cs : Array Value) (u : Value) : Prop where
  size : Y.heap.size = W.heap.size
  keep : ∀ j, j ≠ z2 → j ≠ z3 → Y.heap[j]? = W.heap[j]?
  ext : ∀ a : World, a.heap.size ≤ z2 → a.heap.size ≤ z3 → Ext a W → Ext a Y
  h2 : Y.heap[z2]? = some (.cells cs 84 (0, 0))
  h3 : Y.heap[z3]? = some (.cells #[u] 4 (0, 0))
theorem st6 {W : World} {z2 z3 : Nat} (hne : z2 ≠ z3) {a0 a1 a2 a3 a4 a5 x : Value} (h2 : W.heap[z2]? = some (.cells #[a0, a1, a2, a3, a4, a5] 84 (0, 0))) (h3 : W.heap[z3]? = some (.cells #[x] 4 (0, 0))) (v0 v1 v2 v3 v4 v5 u : Value) :
    St6 W (((((((W.setCell ⟨z2, 0, none⟩ v0).setCell ⟨z2, 1, none⟩ v1).setCell ⟨z2, 2, none⟩ v2).setCell ⟨z2, 3, none⟩ v3).setCell ⟨z2, 4, none⟩ v4).setCell ⟨z2, 5, none⟩ v5).setCell ⟨z3, 0, none⟩ u) z2 z3 #[v0, v1, v2, v3, v4, v5] u := by
  refine ⟨by simp, fun j k2 k3 => ?_, fun a l2 l3 hx => ?_, ?_, ?_⟩
  · rw [heap_setCell_other _ ⟨z3, 0, none⟩ j _ k3, heap_setCell_other _ ⟨z2, 5, none⟩ j _ k2, heap_setCell_other _ ⟨z2, 4, none⟩ j _ k2, heap_setCell_other _ ⟨z2, 3, none⟩ j _ k2, heap_setCell_other _ ⟨z2, 2, none⟩ j _ k2, heap_setCell_other _ ⟨z2, 1, none⟩ j _ k2, heap_setCell_other _ ⟨z2, 0, none⟩ j _ k2]
  · exact (((((((hx.setCell (p := ⟨z2, 0, none⟩) l2 _).setCell (p := ⟨z2, 1, none⟩) l2 _).setCell (p := ⟨z2, 2, none⟩) l2 _).setCell (p := ⟨z2, 3, none⟩) l2 _).setCell (p := ⟨z2, 4, none⟩) l2 _).setCell (p := ⟨z2, 5, none⟩) l2 _).setCell (p := ⟨z3, 0, none⟩) l3 _)
  · rw [heap_setCell_other _ ⟨z3, 0, none⟩ z2 _ hne]
    exact heap_setCell_same _ z2 5 _ 84 _ (heap_setCell_same _ z2 4 _ 84 _ (heap_setCell_same _ z2 3 _ 84 _ (heap_setCell_same _ z2 2 _ 84 _ (heap_setCell_same _ z2 1 _ 84 _ (heap_setCell_same _ z2 0 _ 84 _ h2)))))
  · have h9 : ((((((W.setCell ⟨z2, 0, none⟩ v0).setCell ⟨z2, 1, none⟩ v1).setCell ⟨z2, 2, none⟩ v2).setCell ⟨z2, 3, none⟩ v3).setCell ⟨z2, 4, none⟩ v4).setCell ⟨z2, 5, none⟩ v5).heap[z3]? = some (.cells #[x] 4 (0, 0)) := by
      rw [heap_setCell_other _ ⟨z2, 5, none⟩ z3 _ hne.symm, heap_setCell_other _ ⟨z2, 4, none⟩ z3 _ hne.symm, heap_setCell_other _ ⟨z2, 3, none⟩ z3 _ hne.symm, heap_setCell_other _ ⟨z2, 2, none⟩ z3 _ hne.symm, heap_setCell_other _ ⟨z2, 1, none⟩ z3 _ hne.symm, heap_setCell_other _ ⟨z2, 0, none⟩ z3 _ hne.symm]
      exact h3
    exact heap_setCell_same _ z3 0 _ 4 u h9
theorem find_snoc {p : PgV → Pg} {xs : List PgV} {f : Pg → Bool} (h : (xs.map p).find? f = none) (y : PgV) : ((xs ++ [y]).map p).find? f = if f (p y) = true then some (p y) else none := by
  rw [List.map_append, List.find?_append, h]
  simp only [List.map_cons, List.map_nil, List.find?_cons, List.find?_nil, Option.none_or]
  split <;> simp_all
set_option maxHeartbeats 4000000 in
set_option maxRecDepth 100000 in
theorem page_any (P : Nat → Prop) (w : World) (b : Bk) (num suf : Int) (A : Option Addr) (N c : Nat) (hb : BkI b) (hr : kSe.row w P A N b.secs) (hL : EnvW w) :
    Calls Tryz.prog 91 #[.agg #[.int .i64 b.ms, .int .i64 b.ht, .slice A N c], .agg #[.int .i64 num, .int .i64 suf]] w (PagePost w b num suf) := by
  refine (callsIn_wide (n := 5)).1 ?_
  refine callsIn_of_wp_marks Tryz.func91 rfl trivial ?_ rfl
  simp only [Tryz.ntmps91, List.size_toArray, List.length_cons, List.length_nil, Nat.reduceAdd, Nat.reduceSub, Array.replicate_succ, Array.replicate_zero, List.push_toArray, List.append_toArray, List.nil_append, List.cons_append]
  refine wpIn_wide.2 ?_
  go_wp2_with (first | (go_at_call 73; refine (all_any _ _ _ _ _ _).mono ?_; rintro e w' ⟨rfl, rfl⟩))
  obtain ⟨wl, hwl⟩ : ∃ wl, (((((w.alloc (Obj.cells #[Value.int IntKind.i64 b.ms, Value.int IntKind.i64 b.ht, Value.slice A N c] 27)).alloc (Obj.cells #[Value.int IntKind.i64 num, Value.int IntKind.i64 suf] 64)).alloc
              (Obj.cells #[Value.int IntKind.i64 0, Value.int IntKind.i64 0, Value.int IntKind.i64 0, Value.int IntKind.i64 0, Value.slice none 0 0, Value.slice none 0 0] 84)).alloc (Obj.cells #[Value.bool false] 4)).alloc
      (Obj.cells #[Value.int IntKind.i64 b.ms, Value.int IntKind.i64 b.ht, Value.slice A N c] 27)) = wl := ⟨_, rfl⟩
  obtain ⟨z4, hz4⟩ : ∃ z, w.heap.size + 1 + 1 + 1 + 1 = z := ⟨_, rfl⟩
  obtain ⟨z3, hz3⟩ : ∃ z, w.heap.size + 1 + 1 + 1 = z := ⟨_, rfl⟩
  obtain ⟨z2, hz2⟩ : ∃ z, w.heap.size + 1 + 1 = z := ⟨_, rfl⟩
  obtain ⟨z1, hz1⟩ : ∃ z, w.heap.size + 1 = z := ⟨_, rfl⟩
  rw [hwl, hz4, hz3, hz2, hz1]
  have hsz : wl.heap.size = w.heap.size + 5 := by rw [← hwl]; simp
  have hxl : Ext w wl := by rw [← hwl]; exact (((((Ext.refl w).alloc _).alloc _).alloc _).alloc _).alloc _
  have hB4 : wl.heap[w.heap.size + 4]? = some (.cells #[.int .i64 b.ms, .int .i64 b.ht, .slice A N c] 27 (0, 0)) := by rw [← hwl]; exact heap_alloc_at _ _ _ _ (by simp)
  have hB3 : wl.heap[w.heap.size + 3]? = some (.cells #[.bool false] 4 (0, 0)) := by rw [← hwl, heap_alloc_old _ _ _ (by simp)]; exact heap_alloc_at _ _ _ _ (by simp)
  have hB2 : wl.heap[w.heap.size + 2]? = some (.cells (pgCells ⟨0, 0, 0, 0, [], []⟩ none 0 0 none 0 0) 84 (0, 0)) := by rw [← hwl, heap_alloc_old _ _ _ (by simp), heap_alloc_old _ _ _ (by simp)]; exact heap_alloc_at _ _ _ _ (by simp)
  have hB1 : wl.heap[w.heap.size + 1]? = some (.cells #[.int .i64 num, .int .i64 suf] 64 (0, 0)) := by rw [← hwl, heap_alloc_old _ _ _ (by simp), heap_alloc_old _ _ _ (by simp), heap_alloc_old _ _ _ (by simp)]; exact heap_alloc_at _ _ _ _ (by simp)
  have HSEQ := all1_seq 4 wl b z4 A N c (fun j => j < w.heap.size ∨ j = z4) hb (fun j hj => by omega) (.inl hL.lt4) (.inr rfl) (by rw [← hz4]; exact hB4) (Lay.row_mono (Lay.row_ext (Lay.row_mono (Q := fun j => j < w.heap.size) hr fun j _ hl => hl) hxl) fun j hj _ => .inl hj) (hL.ext hxl)
  have HZ := Lib.hid (show z1 = w.heap.size + 1 ∧ z2 = w.heap.size + 2 ∧ z3 = w.heap.size + 3 ∧ z4 = w.heap.size + 4 by omega)
  clear hwl hz1 hz2 hz3 hz4
  refine (wpIn_wide (n := 5)).1 ?_
  have HQ4 := Lib.hid (show ∀ j, (j < w.heap.size ∨ j = z4) → j < wl.heap.size ∧ (j < w.heap.size ∨ j = w.heap.size + 4) from fun j hj => by have := HZ.out; omega)
  refine rangeH (n := 5) rfl (by omega) (gf := 126) (lb := #[.pointer (some ⟨z4, 0, none⟩)]) rfl trivial (enters_of Tryz.func126 (by kernel_rfl) rfl) HSEQ (fun x => rfl) (fun _ _ _ _ _ => pgRp_put) (PgI w num suf) (PgX w num suf) (PgI.ab hsz) (PgX.ab hsz)
    (fun s q W o' h => h.put hsz) (fun cc s q W o' h => h.put hsz (.inl rfl)) (fun j hj => (HQ4.out j hj).1) (fun s q W h j hj => by have := h.q j hj; omega) (fun W hx hs => ⟨hxl.trans hx, by omega, fun j hj => by have := (HQ4.out j hj).2; omega, (hx.block _ (by omega)).trans hB1, (hx.block _ (by omega)).trans hB2, (hx.block _ (by omega)).trans hB3, rfl⟩)
    (PgAx w z1 z2 z3 z4 b num suf A N c) (fun _ _ _ _ _ h => ?ap) (fun q x W W' h hx => pgRp_ext h hx) ?assign ?body ?done ?stop
  case ap =>
    obtain ⟨Bx, h1, h2, h3⟩ := h
    exact ⟨Bx, h1, (World.putObj_heap_other (by omega)).trans h2, h3⟩
  case assign =>
    rintro l ⟨pg, ⟨A7, n7, c7⟩, ⟨A8, n8, c8⟩⟩ q W K hrp hlen hqs hK
    dsimp only [pgEnc]
    gi_wp2
    exact hK _ _ ((Ext.refl W).alloc _) ⟨W.heap.size, by omega, heap_alloc_at _ _ _ _ rfl, rfl⟩
  case body =>
    rintro pre ⟨pg, ⟨A7, n7, c7⟩, ⟨A8, n8, c8⟩⟩ q a' W hI hrp ⟨Bx, hBx, hB, rfl⟩ hqs hlen _
    unfold pgCells at hB ⊢
    dsimp only at hB ⊢
    have c0 := cell_of hB (i := 0) (u := .int .i64 pg.num) rfl
    have c1 := cell_of hB (i := 1) (u := .int .i64 pg.suf) rfl
    have c2 := cell_of hB (i := 2) (u := .int .i64 pg.ent) rfl
    have c3 := cell_of hB (i := 3) (u := .int .i64 pg.ver) rfl
    have c4 := cell_of hB (i := 4) (u := .slice A7 n7 c7) rfl
    have c5 := cell_of hB (i := 5) (u := .slice A8 n8 c8) rfl
    obtain ⟨hz1, hz2, hz3, hz4⟩ := HZ.out
    have hR := hI.r
    have hBb := hI.b
    have hLb := hI.l
    rw [← hz2] at hR
    rw [← hz3] at hBb
    rw [← hz1] at hLb
    have n1 : z2 ≠ z3 := by omega
    have n2 : z3 ≠ z2 := by omega
    clear hz1 hz2 hz3 hz4
    have f0 := frozen_of hR 0
    have f1 := frozen_of hR 1
    have f2 := frozen_of hR 2
    have f3 := frozen_of hR 3
    have f4 := frozen_of hR 4
    have f5 := frozen_of hR 5
    have f6 := frozen_of hBb 0
    have r0 := cell_of hR (i := 0) (u := .int .i64 0) rfl
    have r1 := cell_of hR (i := 1) (u := .int .i64 0) rfl
    have r2 := cell_of hR (i := 2) (u := .int .i64 0) rfl
    have r3 := cell_of hR (i := 3) (u := .int .i64 0) rfl
    have r4 := cell_of hR (i := 4) (u := .slice none 0 0) rfl
    have r5 := cell_of hR (i := 5) (u := .slice none 0 0) rfl
    have r6 := cell_of hBb (i := 0) (u := .bool false) rfl
    have HRB := Lib.hid (And.intro hR hBb)
    have l0 := cell_of hLb (i := 0) (u := .int .i64 num) rfl
    have l1 := cell_of hLb (i := 1) (u := .int .i64 suf) rfl
    have HI := Lib.hid hI
    have HRP := Lib.hid hrp
    have HQS := Lib.hid hqs
    have HBX := Lib.hid hB
    clear hI hrp hqs hB hB1 hB2 hB3 hB4 hR hBb hLb HSEQ
    by_cases h1 : pg.num = num
    · by_cases h2 : pg.suf = suf
      · have g1 : (pg.num == num) = true := by simpa using h1
        have g2 : (pg.suf == suf) = true := by simpa using h2
        have H1 := Lib.hid h1
        have H2 := Lib.hid h2
        clear h1 h2
        gi_wp2
        obtain ⟨Y, hY⟩ : ∃ Y, (((((((W.setCell ⟨z2, 0, none⟩ (.int .i64 pg.num)).setCell ⟨z2, 1, none⟩ (.int .i64 pg.suf)).setCell ⟨z2, 2, none⟩ (.int .i64 pg.ent)).setCell ⟨z2, 3, none⟩ (.int .i64 pg.ver)).setCell ⟨z2, 4, none⟩ (.slice A7 n7 c7)).setCell ⟨z2, 5, none⟩ (.slice A8 n8 c8)).setCell ⟨z3, 0, none⟩ (.bool true)) = Y := ⟨_, rfl⟩
        have hs6 := st6 n1 HRB.out.1 HRB.out.2 (.int .i64 pg.num) (.int .i64 pg.suf) (.int .i64 pg.ent) (.int .i64 pg.ver) (.slice A7 n7 c7) (.slice A8 n8 c8) (.bool true)
        rw [hY] at hs6 ⊢
        obtain ⟨hz1, hz2, hz3, hz4⟩ := HZ.out
        obtain ⟨k1, k2, k3, k4, _⟩ := HRP.out
        have hI := HI.out
        refine ⟨⟨hs6.keep _ (by omega) (by omega), hs6.keep _ (by omega) (by omega)⟩, ⟨rfl, hs6.ext w (by omega) (by omega) hI.x, by rw [hs6.size]; omega, ⟨pg, A7, n7, c7, A8, n8, c8, ?_, k1, k2, ?_, ?_, by rw [← hz2]; exact hs6.h2⟩, by rw [← hz3]; exact hs6.h3⟩⟩
        · rw [find_snoc hI.n]
          exact if_pos (by simp [lbIs, H1.out, H2.out])
        · exact Lay.row_mono (Lay.row_keep k3 (by rw [hs6.size]; omega) fun j hj hl => hs6.keep j (by omega) (by omega)) fun j hj hl => (by have := hI.q j hj.1.1; omega)
        · exact Lay.row_mono (Lay.row_keep k4 (by rw [hs6.size]; omega) fun j hj hl => hs6.keep j (by omega) (by omega)) fun j hj hl => (by have := hI.q j hj.1.1; omega)
      · have g1 : (pg.num == num) = true := by simpa using h1
        have g2 : (pg.suf == suf) = false := by simpa using h2
        have H2 := Lib.hid h2
        clear h1 h2
        gi_wp2
        have hI := HI.out
        exact ⟨⟨rfl, rfl⟩, fun _ _ => rfl, ⟨hI.x, hI.s, hI.q, hI.l, hI.r, hI.b, by rw [find_snoc hI.n]; exact if_neg (by simp [lbIs, H2.out])⟩⟩
    · have g1 : (pg.num == num) = false := by simpa using h1
      have H1 := Lib.hid h1
      clear h1
      gi_wp2
      have hI := HI.out
      exact ⟨⟨rfl, rfl⟩, fun _ _ => rfl, ⟨hI.x, hI.s, hI.q, hI.l, hI.r, hI.b, by rw [find_snoc hI.n]; exact if_neg (by simp [lbIs, H1.out])⟩⟩
  case done =>
    intro xs q W hS hI hK
    obtain ⟨hz1, hz2, hz3, hz4⟩ := HZ.out
    have hR := hI.r
    have hBb := hI.b
    have hLb := hI.l
    rw [← hz2] at hR
    rw [← hz3] at hBb
    rw [← hz1] at hLb
    have n1 : z2 ≠ z3 := by omega
    have n2 : z3 ≠ z2 := by omega
    clear hz1 hz2 hz3 hz4
    have f0 := frozen_of hR 0
    have f1 := frozen_of hR 1
    have f2 := frozen_of hR 2
    have f3 := frozen_of hR 3
    have f4 := frozen_of hR 4
    have f5 := frozen_of hR 5
    have f6 := frozen_of hBb 0
    have r0 := cell_of hR (i := 0) (u := .int .i64 0) rfl
    have r1 := cell_of hR (i := 1) (u := .int .i64 0) rfl
    have r2 := cell_of hR (i := 2) (u := .int .i64 0) rfl
    have r3 := cell_of hR (i := 3) (u := .int .i64 0) rfl
    have r4 := cell_of hR (i := 4) (u := .slice none 0 0) rfl
    have r5 := cell_of hR (i := 5) (u := .slice none 0 0) rfl
    have r6 := cell_of hBb (i := 0) (u := .bool false) rfl
    have HRB := Lib.hid (And.intro hR hBb)
    have HI := Lib.hid hI
    have HK := Lib.hid hK
    clear hI hK hB1 hB2 hB3 hB4 HSEQ hR hBb hLb
    gi_wp2
    go_wp2_with fail
    obtain ⟨Y, hY⟩ : ∃ Y, (((((((W.setCell ⟨z2, 0, none⟩ (.int .i64 0)).setCell ⟨z2, 1, none⟩ (.int .i64 0)).setCell ⟨z2, 2, none⟩ (.int .i64 0)).setCell ⟨z2, 3, none⟩ (.int .i64 0)).setCell ⟨z2, 4, none⟩ (.slice none 0 0)).setCell ⟨z2, 5, none⟩ (.slice none 0 0)).setCell ⟨z3, 0, none⟩ (.bool false)) = Y := ⟨_, rfl⟩
    have hs6 := st6 n1 HRB.out.1 HRB.out.2 (.int .i64 0) (.int .i64 0) (.int .i64 0) (.int .i64 0) (.slice none 0 0) (.slice none 0 0) (.bool false)
    rw [hY] at hs6 ⊢
    obtain ⟨Z, hZ⟩ : ∃ Z, Y.putObj wl.heap.size (.deferred none) = Z := ⟨_, rfl⟩
    obtain ⟨hz1, hz2, hz3, hz4⟩ := HZ.out
    have hZ2 : Z.heap[z2]? = Y.heap[z2]? := by rw [← hZ]; exact World.putObj_heap_other (by omega)
    have hZ3 : Z.heap[z3]? = Y.heap[z3]? := by rw [← hZ]; exact World.putObj_heap_other (by omega)
    have hKY : Y.heap[wl.heap.size]? = some (.deferred (some [])) := (hs6.keep _ (by omega) (by omega)).trans HK.out
    have hxZ : Ext w Z := by rw [← hZ]; exact (hs6.ext w (by omega) (by omega) HI.out.x).putObj (by omega) _
    have q0 := cell_of (hZ2.trans hs6.h2) (i := 0) rfl
    have q1 := cell_of (hZ2.trans hs6.h2) (i := 1) rfl
    have q2 := cell_of (hZ2.trans hs6.h2) (i := 2) rfl
    have q3 := cell_of (hZ2.trans hs6.h2) (i := 3) rfl
    have q4 := cell_of (hZ2.trans hs6.h2) (i := 4) rfl
    have q5 := cell_of (hZ2.trans hs6.h2) (i := 5) rfl
    have q6 := cell_of (hZ3.trans hs6.h3) (i := 0) rfl
    refine ⟨by simp, .inl ⟨_, _, rfl, run_takeDeferred hKY, ?_⟩⟩
    rw [hZ]
    refine ⟨.tuple #[.agg #[.int .i64 0, .int .i64 0, .int .i64 0, .int .i64 0, .slice none 0 0, .slice none 0 0], .bool false], by simp [results, Tryz.results91, go_sem, q0, q1, q2, q3, q4, q5, q6], .inl ⟨?_, rfl, hxZ⟩⟩
    have := HI.out.n
    rw [hS] at this
    exact this
  case stop =>
    intro cc pre q W hS hX hK
    obtain rfl := hX.c
    have HX := Lib.hid hX
    have HK := Lib.hid hK
    clear hX hK
    gi_wp2
    obtain ⟨Y, hY⟩ : ∃ Y, W = Y := ⟨_, rfl⟩
    rw [hY] at HX HK ⊢
    obtain ⟨Z, hZ⟩ : ∃ Z, Y.putObj wl.heap.size (.deferred none) = Z := ⟨_, rfl⟩
    obtain ⟨hz1, hz2, hz3, hz4⟩ := HZ.out
    have hZ2 : Z.heap[z2]? = Y.heap[z2]? := by rw [← hZ]; exact World.putObj_heap_other (by omega)
    have hZ3 : Z.heap[z3]? = Y.heap[z3]? := by rw [← hZ]; exact World.putObj_heap_other (by omega)
    have hXZ : PgX w num suf .ret pre q Z := by rw [← hZ]; exact HX.out.put hsz (.inr rfl)
    obtain ⟨p, A7, n7, c7, A8, n8, c8, h1, h2, h3, h4, h5, h6⟩ := hXZ.p
    rw [← hz2] at h6
    have h7 := hXZ.b
    rw [← hz3] at h7
    unfold pgCells at h6
    have q0 := cell_of h6 (i := 0) rfl
    have q1 := cell_of h6 (i := 1) rfl
    have q2 := cell_of h6 (i := 2) rfl
    have q3 := cell_of h6 (i := 3) rfl
    have q4 := cell_of h6 (i := 4) rfl
    have q5 := cell_of h6 (i := 5) rfl
    have q6 := cell_of h7 (i := 0) rfl
    refine ⟨by simp, .inl ⟨_, _, by rw [← hsz], run_takeDeferred HK.out, ?_⟩⟩
    rw [hZ]
    refine ⟨.tuple #[.agg #[.int .i64 p.num, .int .i64 p.suf, .int .i64 p.ent, .int .i64 p.ver, .slice A7 n7 c7, .slice A8 n8 c8], .bool true], by simp [results, Tryz.results91, go_sem, q0, q1, q2, q3, q4, q5, q6], .inr ⟨p, A7, n7, c7, A8, n8, c8, ?_, rfl, h2, h3, Lay.row_mono h4 fun j hj _ => (by omega), Lay.row_mono h5 fun j hj _ => (by omega), hXZ.x⟩⟩
    obtain ⟨R, hR⟩ := hS
    show (pagesB b).find? (lbIs num suf) = some p
    rw [← hR, List.find?_append, h1]
    rfl
end
section
open Go Go.RowKit Go.Shelf
attribute [local go_sem] Oper.semAt_some

variable {β : Type}
/-- Between two rounds: the word has not been found. -/
structure WhI (w : World) (e v wd : Int) (pre : List PgV) (q : Nat → Prop) (W : World) : Prop where
  x : Ext w W
  s : w.heap.size + 10 ≤ W.heap.size
  q : ∀ j, q j → j < w.heap.size ∨ j = w.heap.size + 7 ∨ w.heap.size + 10 ≤ j
  a1 : W.heap[w.heap.size + 1]? = some (.cells #[.int .i64 e] 3 (0, 0))
  a2 : W.heap[w.heap.size + 2]? = some (.cells #[.int .i64 v] 3 (0, 0))
  a3 : W.heap[w.heap.size + 3]? = some (.cells #[.int .i64 wd] 3 (0, 0))
  r4 : W.heap[w.heap.size + 4]? = some (.cells #[.int .i64 0, .int .i64 0] 64 (0, 0))
  r5 : W.heap[w.heap.size + 5]? = some (.cells #[.int .i64 0] 3 (0, 0))
  r6 : W.heap[w.heap.size + 6]? = some (.cells #[.bool false] 4 (0, 0))
  n : whereG e v wd (pre.map (·.1)) = none
/-- It has been. -/
structure WhX (w : World) (e v wd : Int) (c : Code) (pre : List PgV) (q : Nat → Prop) (W : World) : Prop where
  c : c = .ret
  x : Ext w W
  s : w.heap.size + 10 ≤ W.heap.size
  p : ∃ (n s : Int) (i : Nat), (∀ R, whereG e v wd (pre.map (·.1) ++ R) = some (n, s, i)) ∧ W.heap[w.heap.size + 4]? = some (.cells #[.int .i64 n, .int .i64 s] 64 (0, 0)) ∧ W.heap[w.heap.size + 5]? = some (.cells #[.int .i64 i] 3 (0, 0))
  b : W.heap[w.heap.size + 6]? = some (.cells #[.bool true] 4 (0, 0))
theorem WhI.ab {w wl : World} {e v wd : Int} (hs : wl.heap.size = w.heap.size + 8) : AbMv (wl.heap.size + 2) (WhI w e v wd) := by
  intro s Q Q' A B h hm hg
  have hsz := h.s
  refine ⟨hm.ext w (by omega) h.x, Nat.le_trans h.s hm.size, fun j hj => ?_, hm.blk (by omega) h.a1, hm.blk (by omega) h.a2, hm.blk (by omega) h.a3, hm.blk (by omega) h.r4, hm.blk (by omega) h.r5, hm.blk (by omega) h.r6, h.n⟩
  rcases hg j hj with h1 | h1 | h1
  · exact h.q j h1
  · omega
  · omega
theorem WhI.put {w wl : World} {e v wd : Int} (hs : wl.heap.size = w.heap.size + 8) {s : List PgV} {q : Nat → Prop} {W : World} {o : Obj} (h : WhI w e v wd s q W) : WhI w e v wd s q (W.putObj (wl.heap.size + 1) o) :=
  ⟨h.x.putObj (by omega) o, by simpa using h.s, h.q, (World.putObj_heap_other (by omega)).trans h.a1, (World.putObj_heap_other (by omega)).trans h.a2, (World.putObj_heap_other (by omega)).trans h.a3, (World.putObj_heap_other (by omega)).trans h.r4, (World.putObj_heap_other (by omega)).trans h.r5, (World.putObj_heap_other (by omega)).trans h.r6, h.n⟩
theorem WhX.ab {w wl : World} {e v wd : Int} (hs : wl.heap.size = w.heap.size + 8) (c : Code) : AbMv (wl.heap.size + 2) (WhX w e v wd c) := by
  intro s Q Q' A B h hm hg
  obtain ⟨n, k, i, h1, h2, h3⟩ := h.p
  have hsz := h.s
  exact ⟨h.c, hm.ext w (by omega) h.x, Nat.le_trans h.s hm.size, ⟨n, k, i, h1, hm.blk (by omega) h2, hm.blk (by omega) h3⟩, hm.blk (by omega) h.b⟩
theorem WhX.put {w wl : World} {e v wd : Int} (hs : wl.heap.size = w.heap.size + 8) {c : Code} {s : List PgV} {q : Nat → Prop} {W : World} {k : Nat} {o : Obj} (hk : k = wl.heap.size + 1 ∨ k = wl.heap.size) (h : WhX w e v wd c s q W) : WhX w e v wd c s q (W.putObj k o) := by
  obtain ⟨n, m, i, h1, h2, h3⟩ := h.p
  exact ⟨h.c, h.x.putObj (by omega) o, by simpa using h.s, ⟨n, m, i, h1, (World.putObj_heap_other (by omega)).trans h2, (World.putObj_heap_other (by omega)).trans h3⟩, (World.putObj_heap_other (by omega)).trans h.b⟩
end
end Go.Proofs.YtdbnddmncbjobaaGreatDoor