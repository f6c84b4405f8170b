/- What the lines of a generated text are, for the walk of page.Text. -/
import Derived.Test.YtdbnddmncbjobaaGreatDoorMap
import Derived.RangeFuncNested
import Derived.RangeFuncBound
import Derived.RangeFuncCalls
import Derived.RangeFuncLeaves
import Derived.TacticsInMore
namespace Go.Proofs.YtdbnddmncbjobaaGreatDoor
section
theorem gapsP_le (ws : List Int) (m : Int) (b : Bool) : (gapsP ws m b).length ≤ ws.length := by
 unfold gapsP
 cases b
 ·rw [if_neg (by simp), gapsGo_len]; omega
 ·rw [if_pos rfl, List.length_replicate]; omega
theorem linesGo_small (m : Int) (B : Nat) : ∀ (ls : List Nat) (ws : List Wd) (first : Int), (ws.length ≤ B) → ∀ x ∈ linesGo m ws ls first, x.gaps.length ≤ B ∧ x.nts.length ≤ B := by
 intro ls
 induction ls with
 | nil => intro ws first _ x hx; simp [linesGo] at hx
 | cons l ls ih =>
  intro ws first hB x hx
  simp only [linesGo] at hx
  rcases List.mem_cons.1 hx with rfl | hx
  ·have h1 := gapsP_le ((ws.take l).map fun w => wid w.s) m ls.isEmpty
   rw [List.length_map, List.length_take] at h1
   have h2 : ((ws.take l).filterMap fun w => if w.nt ≠ 0 then some (w.nt - 1) else none).length ≤ (ws.take l).length := List.length_filterMap_le ..
   rw [List.length_take] at h2
   simp only
   omega
  ·exact ih _ _ (by rw [List.length_drop]; omega) x hx
theorem setsP_small (m : Int) (B : Nat) (ps : List (List Wd)) (first : Int) (h : ∀ p ∈ ps, p.length ≤ B) : ∀ l ∈ setsP m ps first, ∀ x ∈ l, x.gaps.length ≤ B ∧ x.nts.length ≤ B := fun l hl x hx => by
 obtain ⟨p, hp, f, rfl⟩ := setsP_mem _ _ l hl
 exact linesGo_small m B _ _ _ (h p hp) x hx
structure TxP (t : Tx) (m h : Int) : Prop where
 chk : chkT t = 0
 pg : chkPg (linesT t m).2.1 (linesT t m).2.2 h = 0
 ne : (linesT t m).2.1 ≠ []
 left : leftP (linesT t m).2.2 (linesT t m).2.1 [] ≤ 200
 lnb : LnsB (linesT t m).2.1
 lnn : ∀ l ∈ (linesT t m).2.2, LnsB l
 nts : NtsOk (linesT t m).2.2.length (linesT t m).2.1
 nn : (linesT t m).2.2.length ≤ 3
 eq : (textP t m h).2 = (setPg (linesT t m).2.1 (linesT t m).2.2 h).2
theorem txP_of {t : Tx} (ht : OkT t) {m h : Int} (hm : 500 ≤ m) (hm2 : m ≤ 2000) (hh : 4 ≤ h) (hh2 : h ≤ 100) : TxP t m h := by
 have hl : linesT t m = (0, (setsP m t.paras 0).flatten, setsP m t.notes (t.paras.map List.length).sum) := by
  unfold linesT
  rw [if_neg (by rw [chkT_ok ht]; simp), if_neg (by omega)]
 obtain ⟨body, hb⟩ : ∃ b, b = (setsP m t.paras 0).flatten := ⟨_, rfl⟩
 obtain ⟨notes, hn⟩ : ∃ b, b = setsP m t.notes (t.paras.map List.length).sum := ⟨_, rfl⟩
 rw [← hb, ← hn] at hl
 have hnl : notes.length = t.notes.length := by rw [hn]; exact setsP_lenB _ _ _
 have hr : lrefs body = (List.range t.notes.length).map fun (i : Nat) => (i : Int) := by
  rw [hb, setsP_nts hm, ht.rf, upto, List.map_map]
  exact List.map_congr_left fun i _ => by simp only [Function.comp]; omega
 have hrl : (lrefs body).length = t.notes.length := by rw [hr]; simp
 have hnm : ∀ l ∈ notes, 1 ≤ l.length ∧ l.length ≤ 12 := fun l hl => by
  rw [hn] at hl
  obtain ⟨p, hp, f, rfl⟩ := setsP_mem _ _ l hl
  have h1 := setP_len hm p f
  have h2 := ht.len p hp
  exact ⟨h1.2 (fun e => by rw [e] at h2; simp at h2), by omega⟩
 have hc : chkPg body notes h = 0 := by
  unfold chkPg
  have h1 : notes.any (fun l => decide (l.length = 0)) = false := by
   rw [List.any_eq_false]; intro l hl hd; have := hnm l hl; simp only [decide_eq_true_eq] at hd; omega
  rw [if_neg (by omega), if_neg (by rw [h1]; simp)]
  have := ordL_ok notes.length body 0 (by rw [hrl, hr]; exact List.map_congr_left fun i _ => by simp) (by rw [hrl]; omega)
  rw [show ((0 : Nat) : Int) = 0 by rfl] at this
  rw [this, hrl]
  simp only
  rw [if_neg (by omega)]
 have hbl : body.length ≤ 160 := by
  have := flat_len hm 40 t.paras 0 fun p hp => (ht.par.len p hp).2
  have := ht.np
  rw [hb]; omega
 have hb0 : body ≠ [] := by
  rw [hb]
  have := ht.np
  cases hp : t.paras with
  | nil => rw [hp] at this; simp at this
  | cons p ps =>
   have h2 := ht.par.len p (by rw [hp]; simp)
   have h3 := (setP_len hm p 0).2 (fun e => by rw [e] at h2; simp at h2)
   simp only [setsP, List.flatten_cons]
   intro e
   rw [List.append_eq_nil_iff] at e
   rw [e.1] at h3
   simp at h3
 have hleft : leftP notes body [] ≤ 200 := by
  have := leftP_bd notes body 12 fun n => by
   cases hx : notes[n]? with
   | none => simp
   | some l => simpa using (hnm l (List.mem_of_getElem? hx)).2
  rw [hrl] at this
  have := ht.nn
  omega
 refine ⟨chkT_ok ht, ?_, ?_, ?_, ?_, ?_, ?_, ?_, ?_⟩ <;> rw [hl]
 ·exact hc
 ·exact hb0
 ·exact hleft
 ·intro x hx
  rw [hb] at hx
  obtain ⟨l, hl1, hx1⟩ := List.mem_flatten.1 hx
  have := setsP_small m 40 t.paras 0 (fun p hp => (ht.par.len p hp).2) l hl1 x hx1
  omega
 ·intro l hl1 x hx
  rw [hn] at hl1
  have := setsP_small m 12 t.notes _ (fun p hp => (ht.len p hp).2) l hl1 x hx
  omega
 ·intro x hx k hk
  have : k ∈ lrefs body := List.mem_flatMap.2 ⟨x, hx, hk⟩
  rw [hr] at this
  obtain ⟨i, hi, rfl⟩ := List.mem_map.1 this
  have := List.mem_range.1 hi
  simp only
  omega
 ·have := ht.nn
  simp only; omega
 ·unfold textP
  rw [if_neg (by rw [hl]; simp), hl]
end
section
open Go Go.RowKit
set_option maxHeartbeats 4000000 in
set_option maxRecDepth 100000 in
theorem ptext_any (P : Nat → Prop) (w : World) (t : Tx) (m h : Int) (A A' : Option Addr) (n n' c c' : Nat) (h1 : kWs.row w P A n t.paras) (h2 : kWs.row w P A' n' t.notes) (hT : TxP t m h) (hm0 : 500 ≤ m) (hm : m ≤ 2000) (hL : EnvW w) :
  Calls Tryz.prog 127 #[.agg #[.slice A n c, .slice A' n' c'], .int .i64 m, .int .i64 h] w (fun e w' => ∃ A1 c1, e = .returned (.tuple #[.slice A1 (textP t m h).2.length c1, .int .i64 0]) ∧
   kPg.own 84 w' w.heap.size (fun j => w.heap.size ≤ j) (.slice A1 (textP t m h).2.length c1) ((textP t m h).2.map pgOf) ∧ Ext w w') := by
 have HLI := Hd (fun X (hX : Ext w X) => lines_any P X t m A A' n n' c c' (Lay.row_ext h1 hX) (Lay.row_ext h2 hX) hT.chk hm0 hm (hL.ext hX))
 have HT := Hd hT
 obtain ⟨body, hb⟩ : ∃ b, (linesT t m).2.1 = b := ⟨_, rfl⟩
 obtain ⟨notes, hn⟩ : ∃ b, (linesT t m).2.2 = b := ⟨_, rfl⟩
 have HB := Hd hb
 have HN := Hd hn
 simp only [hb, hn] at HLI
 clear h1 h2 hT hL hb hn
 go_enter Tryz.func127, Tryz.ntmps127
 go_wp2_with fail
 refine (HLI.out _ ((Ext.refl w).alloc _)).mono ?_
 rintro e w1 ⟨A1, c1, A2, c2, rfl, ho1, ho2, hx1⟩
 have HX1 := Hd (((Ext.refl w).alloc (.cells #[.slice A n c, .slice A' n' c'] 53)).trans hx1)
 obtain ⟨Ab, cb, e1, hcb, hr1⟩ := own_rowN (Q := fun j => w.heap.size ≤ j) ho1 (fun j hj _ => by rw [World.size_alloc] at hj; omega) (fun j hj _ => by rw [World.size_alloc] at hj; omega)
 obtain ⟨An, cn, e2, _, hr2⟩ := own_rowN (Q := fun j => w.heap.size ≤ j) ho2 (fun j hj _ => by rw [World.size_alloc] at hj; omega) (fun j hj _ => by rw [World.size_alloc] at hj; omega)
 have e1a : A1 = Ab := by injection e1
 have e1c : c1 = cb := by injection e1
 have e2a : A2 = An := by injection e2
 rw [← e1a] at hr1
 rw [← e2a] at hr2
 rw [← e1c] at hcb
 clear e1 e2 e1a e1c e2a ho1 ho2
 have hbl : 0 < body.length := List.length_pos_iff.2 (by rw [← HB.out]; exact HT.out.ne)
 obtain ⟨x0, hx0⟩ : ∃ x, body[0]? = some x := ⟨_, List.getElem?_eq_getElem hbl⟩
 obtain ⟨b0, o0, cs, rfl, _, _, _, _⟩ := Lay.row_at hr1 hx0
 have HPS := Hd (pset_any (fun j => w.heap.size ≤ j) w1 b0 o0 body.length c1 notes.length c2 200 A2 body notes h hr1 hcb hr2 (by have := HT.out.pg; rwa [HB.out, HN.out] at this) (by have := HT.out.left; rwa [HB.out, HN.out] at this) (by omega) (by have := HT.out.nn; rw [HN.out] at this; omega) (by have := HT.out.lnb; rwa [HB.out] at this) (by have := HT.out.lnn; rwa [HN.out] at this) (by have := HT.out.nts; rwa [HB.out, HN.out] at this))
 have HEQ := Hd (show (setPg body notes h).2 = (textP t m h).2 by rw [HT.out.eq, HB.out, HN.out])
 rw [HEQ.out] at HPS
 clear hr1 hr2 hx0 hx1
 go_wp2_with fail
 refine HPS.out.mono ?_
 rintro e w2 ⟨A3, c3, rfl, ho3, hx3⟩
 have HO3 := Hd ho3
 have HX3 := Hd (HX1.out.trans hx3)
 clear ho3 hx3
 have hw1 := HX1.out.lt
 go_wp2_with fail
 go_ret2
 exact ⟨A3, c3, rfl, own_low HO3.out hw1, HX3.out⟩
end
section
open Go Go.RowKit
def Grow (b : Nat) (Q Q' : Nat → Prop) (A : World) : Prop := ∀ j, Q' j → Q j ∨ A.heap.size ≤ j ∨ j = b
def AbMv {β : Type} (b : Nat) (J : β → (Nat → Prop) → World → Prop) : Prop := ∀ s Q Q' A B, J s Q A → Mv b A B → Grow b Q Q' A → J s Q' B
def RSeq {α : Type} (F : Fence) (n : Nat) (P : Program) (g : Nat) (lb : Array Value) (encs : α → Array Value) (Rp : (Nat → Prop) → α → World → Prop) (S Sp : List α → Prop) (Q0 : Nat → Prop) (w : World) : Prop :=
 ∀ (l : Nat) (J Jx : List α → (Nat → Prop) → World → Prop) (W : World), w.heap.size ≤ W.heap.size → (∀ j, j < w.heap.size → W.heap[j]? = w.heap[j]?) → Ext w W → AbMv W.heap.size J → AbMv W.heap.size Jx →
  (∀ pre x Q W1, J pre Q W1 → Rp (fun j => (Q j ∧ j ≠ W.heap.size) ∧ w.heap.size ≤ j) x W1 → (∀ j, Q j → j < W1.heap.size) → W.heap.size < W1.heap.size → Sp (pre ++ [x]) → YieldAt F (n - 1) P l (encs x) W1 fun e W' =>
   (e = .returned (.bool true) ∧ J (pre ++ [x]) Q W' ∧ ∀ j, Q j → W'.heap[j]? = W1.heap[j]?) ∨ (e = .returned (.bool false) ∧ Jx (pre ++ [x]) Q W')) →
  J [] Q0 W →
  CallsIn F n P g (#[.func (.yield l) #[] #[]] ++ lb) W fun e W' => (∃ v, e = .returned v) ∧ ((∃ xs Q, S xs ∧ J xs Q W') ∨ (∃ pre Q, Sp pre ∧ Jx pre Q W'))
def rgPost {α : Type} (l D : Nat) (Q : Nat → Prop) (I : List α → (Nat → Prop) → World → Prop) (Ix : Code → List α → (Nat → Prop) → World → Prop) (xs : List α) (W : World) : Exit → Act → World → Prop
 | .normal, _, W' => (W'.heap[l]? = W.heap[l]? ∧ W'.heap[D]? = W.heap[D]?) ∧ (∀ j, Q j → W'.heap[j]? = W.heap[j]?) ∧ I xs Q W'
 | .ret, _, W' => (W'.heap[l]? = W.heap[l]? ∧ W'.heap[D]? = W.heap[D]?) ∧ Ix .ret xs Q W'
 | .exit id, _, W' => (W'.heap[l]? = W.heap[l]? ∧ W'.heap[D]? = W.heap[D]?) ∧ Ix (.exit id) xs Q W'
 | .goto t, _, W' => (W'.heap[l]? = W.heap[l]? ∧ W'.heap[D]? = W.heap[D]?) ∧ Ix (.goto t) xs Q W'
 | .panic _, _, _ => False
 | .outgrown, _, _ => False
theorem Mv.blk {b k : Nat} {A B : World} {o : Obj} (h : Mv b A B) (hk : k ≠ b) (ho : A.heap[k]? = some o) : B.heap[k]? = some o := (h.keep k hk (Array.getElem?_eq_some_iff.1 ho).1).trans ho
end
section
open Go Go.RowKit
abbrev PgV := Pg × (Option Addr × Nat × Nat) × (Option Addr × Nat × Nat)
def pgEnc (x : PgV) : Array Value := #[.agg #[.int .i64 x.1.num, .int .i64 x.1.suf, .int .i64 x.1.ent, .int .i64 x.1.ver, .slice x.2.1.1 x.2.1.2.1 x.2.1.2.2, .slice x.2.2.1 x.2.2.2.1 x.2.2.2.2]]
def pgRp (Q : Nat → Prop) (x : PgV) (W : World) : Prop := x.2.1.2.1 ≤ x.2.1.2.2 ∧ x.2.2.2.1 ≤ x.2.2.2.2 ∧ kLn.row W Q x.2.1.1 x.2.1.2.1 x.1.body ∧ kLn.row W Q x.2.2.1 x.2.2.2.1 x.1.nts ∧ x.1.body.length ≤ 1000 ∧ x.1.nts.length ≤ 1000
set_option maxHeartbeats 2000000 in
set_option maxRecDepth 100000 in
theorem all_any (w : World) (m h : Int) (A : Option Addr) (n c : Nat) :
  Calls Tryz.prog 73 #[.agg #[.int .i64 m, .int .i64 h, .slice A n c]] w (fun e w' => e = .returned (.func (.func 126) #[] #[.pointer (some ⟨w.heap.size, 0, none⟩)]) ∧ w' = w.alloc (.cells #[.int .i64 m, .int .i64 h, .slice A n c] 27)) := by
 go_enter Tryz.func73, Tryz.ntmps73
 go_wp2_with fail
 go_ret
 exact ⟨rfl, rfl⟩
theorem kept_size {Q : Nat → Prop} {W W' : World} (h : ∀ j, Q j → W'.heap[j]? = W.heap[j]?) (hl : Q (W.heap.size - 1)) (h0 : 0 < W.heap.size) : W.heap.size ≤ W'.heap.size := by
 have h1 := (h _ hl).trans (Array.getElem?_eq_getElem (xs := W.heap) (i := W.heap.size - 1) (by omega))
 have := (Array.getElem?_eq_some_iff.1 h1).1
 omega
theorem EnvW.blk {w W : World} (h : EnvW w) (hb : W.heap[4]? = w.heap[4]?) : EnvW W := by
 intro W' hx
 have h1 := h w (Ext.refl w)
 have hg : Tryz.prog.globalNamed "rollbook/glyph.widths" = some 4 := by kernel_rfl
 unfold World.var? at h1 ⊢
 rw [hg] at h1 ⊢
 simp only [Option.bind_some] at h1 ⊢
 have hlt : 4 < W.heap.size := by
  rcases Nat.lt_or_ge 4 W.heap.size with h9 | h9
  ·exact h9
  ·rw [← hb, Array.getElem?_eq_none h9] at h1
   exact absurd h1 (by simp)
 rw [hx.block 4 hlt, hb]
 exact h1
structure ItC (J : List PgV → (Nat → Prop) → World → Prop) (Q0 : Nat → Prop) (B bb : Nat) (b : Bk) (A : Option Addr) (N c : Nat) (num suf : Int) (pre : List PgV) (Q : Nat → Prop) (wr : World) : Prop where
 j : J pre Q wr
 q0 : ∀ j, Q0 j → Q j
 qB : Q B
 lt : ∀ j, Q j → j < wr.heap.size
 hb : wr.heap[bb]? = some (.cells #[.int .i64 b.ms, .int .i64 b.ht, .slice A N c] 27 (0, 0))
 hB : wr.heap[B]? = some (.cells #[.int .i64 num, .int .i64 suf] 64 (0, 0))
 row : kSe.row wr Q0 A N b.secs
 env : EnvW wr
def Qn (Q : Nat → Prop) (W W' : World) : Nat → Prop := fun j => Q j ∨ (W.heap.size ≤ j ∧ j < W'.heap.size)
theorem ItC.ext {J : List PgV → (Nat → Prop) → World → Prop} {Q0 Q : Nat → Prop} {B bb N c : Nat} {b : Bk} {A : Option Addr} {num suf : Int} {pre : List PgV} {wr wr' : World} (hJ : AbMv B J)
  (h : ItC J Q0 B bb b A N c num suf pre Q wr) (hx : Ext wr wr') : ItC J Q0 B bb b A N c num suf pre (Qn Q wr wr') wr' :=
 ⟨hJ _ _ _ _ _ h.j (Mv.of_ext hx) (fun j hj => by rcases hj with hj | hj; exact .inl hj; exact .inr (.inl hj.1)), fun j hj => .inl (h.q0 j hj), .inl h.qB,
  fun j hj => by rcases hj with hj | hj; exact Nat.lt_of_lt_of_le (h.lt j hj) hx.lt; exact hj.2,
  (hx.block _ (lt_of_block h.hb)).trans h.hb, (hx.block _ (lt_of_block h.hB)).trans h.hB, Lay.row_ext h.row hx, h.env.ext hx⟩
theorem ItC.set {J : List PgV → (Nat → Prop) → World → Prop} {Q0 Q : Nat → Prop} {B bb N c : Nat} {b : Bk} {A : Option Addr} {num suf num' suf' : Int} {pre : List PgV} {wr wr' : World} (hJ : AbMv B J)
  (h : ItC J Q0 B bb b A N c num suf pre Q wr) (hm : Mv B wr wr') (hs : wr'.heap.size = wr.heap.size) (hB : wr'.heap[B]? = some (.cells #[.int .i64 num', .int .i64 suf'] 64 (0, 0))) (hbb : bb ≠ B) (h4 : 4 < B) (hQ : ∀ j, Q0 j → j ≠ B) :
  ItC J Q0 B bb b A N c num' suf' pre Q wr' :=
 ⟨hJ _ _ _ _ _ h.j hm (fun j hj => .inl hj), h.q0, h.qB, fun j hj => by rw [hs]; exact h.lt j hj, (hm.keep bb hbb (lt_of_block h.hb)).trans h.hb, hB,
  Lay.row_keep h.row (by omega) fun j hj hl => hm.keep j (hQ j hj) hl, h.env.blk (hm.keep 4 (by omega) (Nat.lt_trans h4 (lt_of_block h.hB)))⟩
theorem ItC.mv {J : List PgV → (Nat → Prop) → World → Prop} {Q0 Q : Nat → Prop} {B bb N c : Nat} {b : Bk} {A : Option Addr} {num suf num' suf' : Int} {pre : List PgV} {wr wr' : World} (hJ : AbMv B J)
  (h : ItC J Q0 B bb b A N c num suf pre Q wr) (hm : Mv B wr wr') (hs : wr.heap.size ≤ wr'.heap.size) (hB : wr'.heap[B]? = some (.cells #[.int .i64 num', .int .i64 suf'] 64 (0, 0))) (hbb : bb ≠ B) (h4 : 4 < B) (hQ : ∀ j, Q0 j → j ≠ B) :
  ItC J Q0 B bb b A N c num' suf' pre (Qn Q wr wr') wr' :=
 ⟨hJ _ _ _ _ _ h.j hm (fun j hj => by rcases hj with hj | hj; exact .inl hj; exact .inr (.inl hj.1)), fun j hj => .inl (h.q0 j hj), .inl h.qB,
  fun j hj => by rcases hj with hj | hj; exact Nat.lt_of_lt_of_le (h.lt j hj) hs; exact hj.2,
  (hm.keep bb hbb (lt_of_block h.hb)).trans h.hb, hB, Lay.row_keep h.row hs fun j hj hl => hm.keep j (hQ j hj) hl, h.env.blk (hm.keep 4 (by omega) (Nat.lt_trans h4 (lt_of_block h.hB)))⟩
theorem ItC.round {J : List PgV → (Nat → Prop) → World → Prop} {Q0 Q : Nat → Prop} {B bb N c : Nat} {b : Bk} {A : Option Addr} {num suf : Int} {pre pre' : List PgV} {wr wr' : World}
  (h : ItC J Q0 B bb b A N c num suf pre Q wr) (hj : J pre' Q wr') (hk : ∀ j, Q j → wr'.heap[j]? = wr.heap[j]?) (hl : Q (wr.heap.size - 1)) (hbb : Q0 bb) (h4 : Q0 4) :
  ItC J Q0 B bb b A N c num suf pre' Q wr' := by
 have hsz := kept_size hk hl (Nat.lt_of_le_of_lt (Nat.zero_le _) (h.lt _ hl))
 exact ⟨hj, h.q0, h.qB, fun j hq => Nat.lt_of_lt_of_le (h.lt j hq) hsz, (hk bb (h.q0 _ hbb)).trans h.hb, (hk _ h.qB).trans h.hB, Lay.row_keep h.row hsz fun j hq _ => hk j (h.q0 j hq), h.env.blk (hk 4 (h.q0 _ h4))⟩
end
section
open Go Go.RowKit
theorem TxP.len {t : Tx} {m h : Int} (hT : TxP t m h) : (textP t m h).2.length ≤ 200 := by
 rw [hT.eq]
 unfold setPg
 rw [if_neg (by rw [hT.pg]; simp)]
 exact Nat.le_trans (setF_len _ _ _ _ _) hT.left
structure BkI (b : Bk) : Prop where
 s : BkS b.secs
 m0 : 500 ≤ b.ms
 m1 : b.ms ≤ 2000
 h : 0 ≤ b.ht ∧ b.ht ≤ 100
 vs : ∀ x ∈ b.secs, x.vers.length = x.texts.length
 tx : ∀ x ∈ b.secs, ∀ t ∈ x.texts, TxP t b.ms b.ht
 np : (pagesB b).length ≤ 1000000
 ln : ∀ x ∈ b.secs, ∀ t ∈ x.texts, ∀ p ∈ (textP t b.ms b.ht).2, p.1.length ≤ 1000 ∧ p.2.length ≤ 1000
def Bd (num suf : Int) (pre : List PgV) : Prop := 0 ≤ num ∧ num ≤ pre.length ∧ 0 ≤ suf ∧ suf ≤ pre.length
def ItO (J : List PgV → (Nat → Prop) → World → Prop) (Q0 : Nat → Prop) (B bb : Nat) (b : Bk) (A : Option Addr) (N c : Nat) (s16 : Value) (w' : World) : Prop :=
 ∃ (i : Nat) (num suf : Int) (pre : List PgV) (Q : Nat → Prop), i ≤ b.secs.length ∧ s16 = .int .i64 i ∧ ItC J Q0 B bb b A N c num suf pre Q w' ∧ Bd num suf pre ∧ pre.map (·.1) ++ pagesS b.ms b.ht (b.secs.drop i) num = pagesB b
theorem pagesV_nil (m h ent : Int) (vs : List Int) (f : Bool) (n s : Int) : pagesV m h ent vs [] f n s = ([], n) := by cases vs <;> rfl
def ItM (J : List PgV → (Nat → Prop) → World → Prop) (Q0 : Nat → Prop) (B bb : Nat) (b : Bk) (A : Option Addr) (N c : Nat) (b5 : Nat) (x : Se) (A1 : Option Addr) (n1 c1 : Nat) (A2 : Option Addr) (n2 c2 : Nat) (rest : List Se) (s24 : Value) (w' : World) : Prop :=
 ∃ (k : Nat) (num suf : Int) (pre : List PgV) (Q : Nat → Prop), k ≤ x.texts.length ∧ s24 = .int .i64 k ∧ ItC J Q0 B bb b A N c num suf pre Q w' ∧ Bd num suf pre ∧
  Q b5 ∧ w'.heap[b5]? = some (.cells #[.int .i64 x.ent, .bool x.fz, .slice A1 n1 c1, .slice A2 n2 c2] 46 (0, 0)) ∧ kInt.row w' Q0 A1 n1 x.vers ∧ kTx.row w' Q0 A2 n2 x.texts ∧
  pre.map (·.1) ++ ((pagesV b.ms b.ht x.ent (x.vers.drop k) (x.texts.drop k) (decide (k = 0)) num suf).1 ++ pagesS b.ms b.ht rest (pagesV b.ms b.ht x.ent (x.vers.drop k) (x.texts.drop k) (decide (k = 0)) num suf).2) = pagesB b
def ItI (J : List PgV → (Nat → Prop) → World → Prop) (Q0 : Nat → Prop) (B bb : Nat) (b : Bk) (A : Option Addr) (N c : Nat) (b5 : Nat) (x : Se) (A1 : Option Addr) (n1 c1 : Nat) (A2 : Option Addr) (n2 c2 : Nat) (rest : List Se) (k : Nat) (v : Int) (pgs : List (List Ln × List Ln)) (A6 : Option Addr) (S0 : Nat) (s40 : Value) (w' : World) : Prop :=
 ∃ (p : Nat) (num suf : Int) (pre : List PgV) (Q : Nat → Prop), p ≤ pgs.length ∧ s40 = .int .i64 p ∧ ItC J Q0 B bb b A N c num suf pre Q w' ∧ Bd num suf pre ∧
  Q b5 ∧ w'.heap[b5]? = some (.cells #[.int .i64 x.ent, .bool x.fz, .slice A1 n1 c1, .slice A2 n2 c2] 46 (0, 0)) ∧ kInt.row w' Q0 A1 n1 x.vers ∧ kTx.row w' Q0 A2 n2 x.texts ∧ kPg.row w' (fun j => (Q j ∧ j ≠ b5 ∧ j ≠ B) ∧ S0 ≤ j) A6 pgs.length (pgs.map pgOf) ∧
  pre.map (·.1) ++ ((pagesT x.ent v (decide (k = 0)) (pgs.drop p) num suf).1 ++ ((pagesV b.ms b.ht x.ent (x.vers.drop (k + 1)) (x.texts.drop (k + 1)) false (pagesT x.ent v (decide (k = 0)) (pgs.drop p) num suf).2.1 (pagesT x.ent v (decide (k = 0)) (pgs.drop p) num suf).2.2).1 ++ pagesS b.ms b.ht rest (pagesV b.ms b.ht x.ent (x.vers.drop (k + 1)) (x.texts.drop (k + 1)) false (pagesT x.ent v (decide (k = 0)) (pgs.drop p) num suf).2.1 (pagesT x.ent v (decide (k = 0)) (pgs.drop p) num suf).2.2).2)) = pagesB b
def stN (k : Nat) (num : Int) : Int := if k = 0 then num + 1 else num
def stS (k : Nat) (suf : Int) : Int := if k = 0 then suf else suf + 1
theorem pagesT_step (ent v : Int) (k : Nat) {pgs : List (List Ln × List Ln)} {p : Nat} {pg : List Ln × List Ln} (hp : pgs[p]? = some pg) (n s : Int) :
  pagesT ent v (decide (k = 0)) (pgs.drop p) n s = (⟨stN k n, stS k s, ent, v, pg.1, pg.2⟩ :: (pagesT ent v (decide (k = 0)) (pgs.drop (p + 1)) (stN k n) (stS k s)).1, (pagesT ent v (decide (k = 0)) (pgs.drop (p + 1)) (stN k n) (stS k s)).2) := by
 rw [List.drop_eq_getElem_cons (List.getElem?_eq_some_iff.1 hp).1, (List.getElem?_eq_some_iff.1 hp).2]
 unfold stN stS
 by_cases hk : k = 0 <;> simp [pagesT, hk]
theorem itI_next {J : List PgV → (Nat → Prop) → World → Prop} {Q0 Q : Nat → Prop} {B bb N c b5 n1 c1 n2 c2 k p S0 : Nat} {b : Bk} {A A1 A2 A6 : Option Addr} {num suf v : Int} {pre : List PgV} {x : Se} {rest : List Se} {pgs : List (List Ln × List Ln)} {pg : List Ln × List Ln} {wi w9 W2 : World} {pv : PgV}
  (hpi : pgs[p]? = some pg) (hbb : Q0 bb) (h4 : Q0 4) (hC : ItC J Q0 B bb b A N c (stN k num) (stS k suf) pre (Qn Q wi w9) w9) (hl : Qn Q wi w9 (w9.heap.size - 1)) (hBd : Bd num suf pre) (hq5 : Q b5)
  (hB5 : w9.heap[b5]? = some (.cells #[.int .i64 x.ent, .bool x.fz, .slice A1 n1 c1, .slice A2 n2 c2] 46 (0, 0))) (hR1 : kInt.row w9 Q0 A1 n1 x.vers) (hR2 : kTx.row w9 Q0 A2 n2 x.texts) (hRP : kPg.row w9 (fun j => (Q j ∧ j ≠ b5 ∧ j ≠ B) ∧ S0 ≤ j) A6 pgs.length (pgs.map pgOf))
  (hS : pre.map (·.1) ++ ((pagesT x.ent v (decide (k = 0)) (pgs.drop p) num suf).1 ++ ((pagesV b.ms b.ht x.ent (x.vers.drop (k + 1)) (x.texts.drop (k + 1)) false (pagesT x.ent v (decide (k = 0)) (pgs.drop p) num suf).2.1 (pagesT x.ent v (decide (k = 0)) (pgs.drop p) num suf).2.2).1 ++ pagesS b.ms b.ht rest (pagesV b.ms b.ht x.ent (x.vers.drop (k + 1)) (x.texts.drop (k + 1)) false (pagesT x.ent v (decide (k = 0)) (pgs.drop p) num suf).2.1 (pagesT x.ent v (decide (k = 0)) (pgs.drop p) num suf).2.2).2)) = pagesB b)
  (hpv : pv.1 = ⟨stN k num, stS k suf, x.ent, v, pg.1, pg.2⟩) (hJ : J (pre ++ [pv]) (Qn Q wi w9) W2) (hk : ∀ j, Qn Q wi w9 j → W2.heap[j]? = w9.heap[j]?) :
  ItI J Q0 B bb b A N c b5 x A1 n1 c1 A2 n2 c2 rest k v pgs A6 S0 (.int .i64 ((p : Int) + 1)) W2 := by
 have hC2 := hC.round hJ hk hl hbb h4
 have hsz := kept_size hk hl (Nat.lt_of_le_of_lt (Nat.zero_le _) (hC.lt _ hl))
 obtain ⟨h0, h1, h2, h3⟩ := hBd
 refine ⟨p + 1, stN k num, stS k suf, pre ++ [pv], Qn Q wi w9, (List.getElem?_eq_some_iff.1 hpi).1, by simp, hC2, ⟨?_, ?_, ?_, ?_⟩, .inl hq5, (hk b5 (.inl hq5)).trans hB5, Lay.row_keep hR1 hsz fun j hj _ => hk j (hC.q0 j hj), Lay.row_keep hR2 hsz fun j hj _ => hk j (hC.q0 j hj), ?_, ?_⟩
 ·unfold stN; split <;> omega
 ·unfold stN; simp only [List.length_append, List.length_cons, List.length_nil]; split <;> omega
 ·unfold stS; split <;> omega
 ·unfold stS; simp only [List.length_append, List.length_cons, List.length_nil]; split <;> omega
 ·exact Lay.row_mono (Lay.row_keep hRP hsz fun j hj _ => hk j (.inl hj.1.1)) fun j hj _ => ⟨⟨.inl hj.1.1, hj.1.2⟩, hj.2⟩
 ·rw [pagesT_step x.ent v k hpi] at hS
  rw [← hS, List.map_append, List.map_cons, List.map_nil, hpv, List.append_assoc]
  rfl
theorem pre_cons {γ : Type} (X : List γ) (p : γ) (R Y : List γ) : X ++ [p] <+: X ++ ((p :: R) ++ Y) := ⟨R ++ Y, by simp⟩
theorem itI_stop {b : Bk} {k p : Nat} {num suf v : Int} {pre : List PgV} {x : Se} {rest : List Se} {pgs : List (List Ln × List Ln)} {pg : List Ln × List Ln} {pv : PgV} (hpi : pgs[p]? = some pg)
  (hS : pre.map (·.1) ++ ((pagesT x.ent v (decide (k = 0)) (pgs.drop p) num suf).1 ++ ((pagesV b.ms b.ht x.ent (x.vers.drop (k + 1)) (x.texts.drop (k + 1)) false (pagesT x.ent v (decide (k = 0)) (pgs.drop p) num suf).2.1 (pagesT x.ent v (decide (k = 0)) (pgs.drop p) num suf).2.2).1 ++ pagesS b.ms b.ht rest (pagesV b.ms b.ht x.ent (x.vers.drop (k + 1)) (x.texts.drop (k + 1)) false (pagesT x.ent v (decide (k = 0)) (pgs.drop p) num suf).2.1 (pagesT x.ent v (decide (k = 0)) (pgs.drop p) num suf).2.2).2)) = pagesB b)
  (hpv : pv.1 = ⟨stN k num, stS k suf, x.ent, v, pg.1, pg.2⟩) : (pre ++ [pv]).map (·.1) <+: pagesB b := by
 rw [pagesT_step x.ent v k hpi] at hS
 rw [← hS, List.map_append, List.map_cons, List.map_nil, hpv]
 exact pre_cons _ _ _ _
end
section
def lblt (a b : Pg) : Prop := a.num < b.num ∨ a.num = b.num ∧ a.suf < b.suf
theorem pagesT_one (ent ver : Int) : ∀ (ps : List (List Ln × List Ln)) (n s : Int), (pagesT ent ver true ps n s).2 = (n + ps.length, s) ∧ (pagesT ent ver true ps n s).1.length = ps.length ∧
  (∀ p ∈ (pagesT ent ver true ps n s).1, n < p.num ∧ p.num ≤ n + ps.length ∧ p.suf = s ∧ p.ent = ent ∧ p.ver = ver) ∧ (pagesT ent ver true ps n s).1.Pairwise lblt := by
 intro ps
 induction ps with
 | nil => intro n s; simp [pagesT]
 | cons p ps ih =>
  intro n s
  simp only [pagesT, if_true]
  obtain ⟨h1, h2, h3, h4⟩ := ih (n + 1) s
  refine ⟨?_, by simp [h2], fun x hx => ?_, ?_⟩
  ·rw [h1]; simp only [List.length_cons]; congr 1; omega
  ·rcases List.mem_cons.1 hx with rfl | hx
   ·simp; omega
   ·have := h3 x hx; simp only [List.length_cons]; omega
  ·rw [List.pairwise_cons]
   exact ⟨fun x hx => .inl (by have := (h3 x hx).1; simp only; omega), h4⟩
theorem pagesT_more (ent ver : Int) : ∀ (ps : List (List Ln × List Ln)) (n s : Int), (pagesT ent ver false ps n s).2 = (n, s + ps.length) ∧ (pagesT ent ver false ps n s).1.length = ps.length ∧
  (∀ p ∈ (pagesT ent ver false ps n s).1, p.num = n ∧ s < p.suf ∧ p.suf ≤ s + ps.length ∧ p.ent = ent ∧ p.ver = ver) ∧ (pagesT ent ver false ps n s).1.Pairwise lblt := by
 intro ps
 induction ps with
 | nil => intro n s; simp [pagesT]
 | cons p ps ih =>
  intro n s
  simp only [pagesT, Bool.false_eq_true, if_false]
  obtain ⟨h1, h2, h3, h4⟩ := ih n (s + 1)
  refine ⟨?_, by simp [h2], fun x hx => ?_, ?_⟩
  ·rw [h1]; simp only [List.length_cons]; congr 1; omega
  ·rcases List.mem_cons.1 hx with rfl | hx
   ·simp; omega
   ·have := h3 x hx; simp only [List.length_cons]; omega
  ·rw [List.pairwise_cons]
   exact ⟨fun x hx => .inr (by have := h3 x hx; simp only; omega), h4⟩
def PgsOk (m h : Int) (K : Nat) (ts : List Tx) : Prop := ∀ t ∈ ts, (textP t m h).2 ≠ [] ∧ (textP t m h).2.length ≤ K
theorem pagesV_more (m h ent : Int) (K : Nat) : ∀ (vs : List Int) (ts : List Tx) (n s : Int), PgsOk m h K ts →
  (pagesV m h ent vs ts false n s).2 = n ∧ (∀ p ∈ (pagesV m h ent vs ts false n s).1, p.num = n ∧ s < p.suf ∧ p.suf ≤ s + (K * ts.length : Nat)) ∧ (pagesV m h ent vs ts false n s).1.Pairwise lblt := by
 intro vs
 induction vs with
 | nil => intro ts n s _; simp [pagesV]
 | cons v vs ih =>
  intro ts n s hk
  cases ts with
  | nil => simp [pagesV]
  | cons t ts =>
   simp only [pagesV]
   obtain ⟨h1, _, h3, h4⟩ := pagesT_more ent v (textP t m h).2 n s
   rw [h1]
   have hK := (hk t (by simp)).2
   obtain ⟨g1, g2, g3⟩ := ih ts n (s + (textP t m h).2.length) fun x hx => hk x (by simp [hx])
   refine ⟨g1, fun p hp => ?_, ?_⟩
   ·simp only [List.length_cons, Nat.mul_add, Nat.mul_one]
    rcases List.mem_append.1 hp with hp | hp
    ·have := h3 p hp; omega
    ·have := g2 p hp; omega
   ·rw [List.pairwise_append]
    exact ⟨h4, g3, fun a ha b hb => .inr (by have := h3 a ha; have := g2 b hb; omega)⟩
theorem pagesV_one (m h ent : Int) (K : Nat) : ∀ (vs : List Int) (ts : List Tx) (n : Int), PgsOk m h K ts →
  n ≤ (pagesV m h ent vs ts true n 0).2 ∧ (pagesV m h ent vs ts true n 0).2 ≤ n + K ∧ (∀ p ∈ (pagesV m h ent vs ts true n 0).1, n < p.num ∧ p.num ≤ (pagesV m h ent vs ts true n 0).2 ∧ 0 ≤ p.suf ∧ p.suf ≤ (K * ts.length : Nat)) ∧ (pagesV m h ent vs ts true n 0).1.Pairwise lblt := by
 intro vs ts n hk
 cases vs with
 | nil => simp [pagesV]; omega
 | cons v vs =>
  cases ts with
  | nil => simp [pagesV]; omega
  | cons t ts =>
   simp only [pagesV]
   obtain ⟨h1, _, h3, h4⟩ := pagesT_one ent v (textP t m h).2 n 0
   rw [h1]
   have hK := hk t (by simp)
   have hp : 1 ≤ (textP t m h).2.length := List.length_pos_iff.2 hK.1
   obtain ⟨g1, g2, g3⟩ := pagesV_more m h ent K vs ts (n + (textP t m h).2.length) 0 fun x hx => hk x (by simp [hx])
   rw [g1]
   refine ⟨by omega, by omega, fun p hp => ?_, ?_⟩
   ·simp only [List.length_cons, Nat.mul_add, Nat.mul_one]
    rcases List.mem_append.1 hp with hp | hp
    ·have := h3 p hp; omega
    ·have := g2 p hp; omega
   ·rw [List.pairwise_append]
    exact ⟨h4, g3, fun a ha b hb => by
     have h5 := h3 a ha; have h6 := g2 b hb
     by_cases h7 : a.num = n + (textP t m h).2.length
     ·exact .inr ⟨by omega, by omega⟩
     ·exact .inl (by omega)⟩
theorem pagesS_ok (m h : Int) (K V : Nat) : ∀ (l : List Se) (n : Int), (∀ x ∈ l, PgsOk m h K x.texts ∧ x.texts.length ≤ V) →
  (∀ p ∈ pagesS m h l n, n < p.num ∧ p.num ≤ n + (K * l.length : Nat) ∧ 0 ≤ p.suf ∧ p.suf ≤ (K * V : Nat)) ∧ (pagesS m h l n).Pairwise lblt := by
 intro l
 induction l with
 | nil => intro n _; simp [pagesS]
 | cons x l ih =>
  intro n hk
  simp only [pagesS]
  obtain ⟨h1, h2, h3, h4⟩ := pagesV_one m h x.ent K x.vers x.texts n (hk x (by simp)).1
  obtain ⟨g1, g2⟩ := ih (pagesV m h x.ent x.vers x.texts true n 0).2 fun y hy => hk y (by simp [hy])
  have hV : K * x.texts.length ≤ K * V := Nat.mul_le_mul_left _ (hk x (by simp)).2
  refine ⟨fun p hp => ?_, ?_⟩
  ·simp only [List.length_cons, Nat.mul_add, Nat.mul_one]
   rcases List.mem_append.1 hp with hp | hp
   ·have := h3 p hp; omega
   ·have := g1 p hp; omega
  ·rw [List.pairwise_append]
   exact ⟨h4, g2, fun a ha b hb => .inl (by have := h3 a ha; have := g1 b hb; omega)⟩
theorem find_lab : ∀ (l : List Pg), l.Pairwise lblt → ∀ p ∈ l, l.find? (fun q => decide (q.num = p.num ∧ q.suf = p.suf)) = some p := by
 intro l
 induction l with
 | nil => intro _ p hp; simp at hp
 | cons a l ih =>
  intro hl p hp
  rw [List.pairwise_cons] at hl
  rcases List.mem_cons.1 hp with rfl | hp
  ·rw [List.find?_cons_of_pos (by simp)]
  ·rw [List.find?_cons_of_neg (by
    have := hl.1 p hp
    unfold lblt at this
    simp only [decide_eq_true_eq]; omega)]
   exact ih hl.2 p hp
end
section
structure OkK (b : Bk) : Prop where
 pg : ∀ x ∈ b.secs, ∃ K, PgsOk b.ms b.ht K x.texts
 vs : ∀ x ∈ b.secs, x.vers ≠ [] ∧ x.vers.length = x.texts.length
 ent : (b.secs.map (·.ent)).Nodup
theorem pgs_all {b : Bk} (h : ∀ x ∈ b.secs, ∃ K, PgsOk b.ms b.ht K x.texts) : ∃ K V, ∀ x ∈ b.secs, PgsOk b.ms b.ht K x.texts ∧ x.texts.length ≤ V := by
 suffices ∀ l : List Se, (∀ x ∈ l, ∃ K, PgsOk b.ms b.ht K x.texts) → ∃ K V, ∀ x ∈ l, PgsOk b.ms b.ht K x.texts ∧ x.texts.length ≤ V from this _ h
 intro l
 induction l with
 | nil => intro _; exact ⟨0, 0, fun x hx => by simp at hx⟩
 | cons a l ih =>
  intro hl
  obtain ⟨K, V, h1⟩ := ih fun x hx => hl x (by simp [hx])
  obtain ⟨K', h2⟩ := hl a (by simp)
  refine ⟨max K K', max V a.texts.length, fun x hx => ?_⟩
  rcases List.mem_cons.1 hx with rfl | hx
  ·exact ⟨fun t ht => ⟨(h2 t ht).1, by have := (h2 t ht).2; omega⟩, by omega⟩
  ·exact ⟨fun t ht => ⟨((h1 x hx).1 t ht).1, by have := ((h1 x hx).1 t ht).2; omega⟩, by have := (h1 x hx).2; omega⟩
theorem sorted_of {b : Bk} (h : ∀ x ∈ b.secs, ∃ K, PgsOk b.ms b.ht K x.texts) : (pagesB b).Pairwise lblt := by
 obtain ⟨K, V, hk⟩ := pgs_all h
 exact (pagesS_ok b.ms b.ht K V b.secs 0 hk).2
theorem pagesS_ends (m h : Int) : ∀ (l : List Se) (n : Int), ∃ n', ∀ r, pagesS m h (l ++ r) n = pagesS m h l n ++ pagesS m h r n' := by
 intro l
 induction l with
 | nil => intro n; exact ⟨n, fun r => rfl⟩
 | cons x l ih =>
  intro n
  obtain ⟨n', h'⟩ := ih (pagesV m h x.ent x.vers x.texts true n 0).2
  exact ⟨n', fun r => by simp only [List.cons_append, pagesS, h', List.append_assoc]⟩
theorem whereG_left (e v w : Int) (A R : List Pg) (x : Int × Int × Nat) (h : whereG e v w A = some x) : whereG e v w (A ++ R) = some x := by
 induction A with
 | nil => simp [whereG] at h
 | cons p A ih =>
  simp only [List.cons_append, whereG] at h ⊢
  split at h
  ·next hc => rw [if_pos hc]; exact ih h
  ·next hc =>
   rw [if_neg hc]
   split at h
   ·exact h
   ·exact ih h
structure Keeps (b b' : Bk) (e v : Int) : Prop where
 page : ∀ n s p, pageP b n s = some p → pageP b' n s = some p
 place : ∀ w x, whereP b e v w = some x → whereP b' e v w = some x
 ok : OkK b'
theorem Keeps.refl {b : Bk} (h : OkK b) (e v : Int) : Keeps b b e v := ⟨fun _ _ _ h => h, fun _ _ h => h, h⟩
theorem Keeps.trans {b c d : Bk} {e v : Int} (h : Keeps b c e v) (k : Keeps c d e v) : Keeps b d e v := ⟨fun n s p hp => k.page n s p (h.page n s p hp), fun w x hw => k.place w x (h.place w x hw), k.ok⟩
theorem page_of_mem {b : Bk} (h : OkK b) {p : Pg} (hp : p ∈ pagesB b) : pageP b p.num p.suf = some p := find_lab _ (sorted_of h.pg) p hp
theorem page_mem {b : Bk} {n s : Int} {p : Pg} (h : pageP b n s = some p) : p ∈ pagesB b ∧ p.num = n ∧ p.suf = s := by
 unfold pageP at h
 have h1 := List.find?_some h
 simp only [decide_eq_true_eq] at h1
 exact ⟨List.mem_of_find?_eq_some h, h1⟩
theorem keeps_of {b b' : Bk} (h' : OkK b') {e v : Int} (hsub : ∀ p ∈ pagesB b, p ∈ pagesB b') (hw : ∀ w x, whereP b e v w = some x → whereP b' e v w = some x) : Keeps b b' e v :=
 ⟨fun n s p hp => by
  obtain ⟨h1, rfl, rfl⟩ := page_mem hp
  exact page_of_mem h' (hsub p h1), hw, h'⟩
theorem keeps_add {b : Bk} (h : OkK b) (e v : Int) (x : Se) (hx : ∃ K, PgsOk b.ms b.ht K x.texts) (hv : x.vers ≠ [] ∧ x.vers.length = x.texts.length) (hn : ∀ y ∈ b.secs, y.ent ≠ x.ent) : Keeps b { b with secs := b.secs ++ [x] } e v := by
 obtain ⟨n', hp⟩ := pagesS_ends b.ms b.ht b.secs 0
 have hp := hp [x]
 refine keeps_of ⟨fun y hy => ?_, fun y hy => ?_, ?_⟩ (fun p hp' => ?_) (fun w y hw => ?_)
 ·simp only [List.mem_append, List.mem_singleton] at hy
  rcases hy with hy | rfl
  ·exact h.pg y hy
  ·exact hx
 ·simp only [List.mem_append, List.mem_singleton] at hy
  rcases hy with hy | rfl
  ·exact h.vs y hy
  ·exact hv
 ·simp only [List.map_append, List.map_cons, List.map_nil]
  rw [List.nodup_append]
  refine ⟨h.ent, by simp, fun a ha b' hb => ?_⟩
  obtain ⟨y, hy, rfl⟩ := List.mem_map.1 ha
  simp only [List.mem_singleton] at hb
  subst hb
  exact hn y hy
 ·show p ∈ pagesS b.ms b.ht (b.secs ++ [x]) 0
  rw [hp]; exact List.mem_append_left _ hp'
 ·show whereG e v w (pagesS b.ms b.ht (b.secs ++ [x]) 0) = _
  rw [hp]; exact whereG_left e v w _ _ y hw
end
section
structure OkB (b : Bk) (N V : Nat) : Prop where
 m0 : 500 ≤ b.ms
 m1 : b.ms ≤ 2000
 h0 : 4 ≤ b.ht
 h1 : b.ht ≤ 100
 n : b.secs.length ≤ N
 vs : ∀ x ∈ b.secs, x.vers.length = x.texts.length ∧ x.vers ≠ [] ∧ x.texts.length ≤ V
 tx : ∀ x ∈ b.secs, ∀ t ∈ x.texts, OkT t
 ent : (b.secs.map (·.ent)).Nodup
theorem pagesT_len (ent v : Int) (f : Bool) : ∀ (ps : List (List Ln × List Ln)) (n s : Int), (pagesT ent v f ps n s).1.length = ps.length := by
 intro ps
 induction ps with
 | nil => intro n s; rfl
 | cons p ps ih => intro n s; simp [pagesT, ih]
theorem pagesV_len (m h ent : Int) (K : Nat) : ∀ (vs : List Int) (ts : List Tx) (f : Bool) (n s : Int), (∀ t ∈ ts, (textP t m h).2.length ≤ K) → (pagesV m h ent vs ts f n s).1.length ≤ K * ts.length := by
 intro vs
 induction vs with
 | nil => intro ts f n s _; simp [pagesV]
 | cons v vs ih =>
  intro ts f n s hk
  cases ts with
  | nil => simp [pagesV]
  | cons t ts =>
   simp only [pagesV, List.length_append, pagesT_len, List.length_cons, Nat.mul_add, Nat.mul_one]
   have h1 := hk t (by simp)
   have h2 := ih ts false (pagesT ent v f (textP t m h).2 n s).2.1 (pagesT ent v f (textP t m h).2 n s).2.2 fun t ht => hk t (by simp [ht])
   omega
theorem pagesS_len (m h : Int) (K V : Nat) : ∀ (l : List Se) (n : Int), (∀ x ∈ l, (∀ t ∈ x.texts, (textP t m h).2.length ≤ K) ∧ x.texts.length ≤ V) → (pagesS m h l n).length ≤ K * V * l.length := by
 intro l
 induction l with
 | nil => intro n _; simp [pagesS]
 | cons x l ih =>
  intro n hk
  simp only [pagesS, List.length_append, List.length_cons, Nat.mul_add, Nat.mul_one]
  have h1 := pagesV_len m h x.ent K x.vers x.texts true n 0 (hk x (by simp)).1
  have h2 := ih (pagesV m h x.ent x.vers x.texts true n 0).2 fun y hy => hk y (by simp [hy])
  have h3 : K * x.texts.length ≤ K * V := Nat.mul_le_mul_left _ (hk x (by simp)).2
  omega
theorem OkT.small {t : Tx} (h : OkT t) : TxS t :=
 ⟨by have := h.np; omega, by have := h.nn; omega, fun p hp => by
  rcases List.mem_append.1 hp with hp | hp
  ·have := (h.par.len p hp).2; omega
  ·have := (h.len p hp).2; omega⟩
theorem OkB.bkS {b : Bk} {N V : Nat} (h : OkB b N V) (hN : N ≤ 1000000) (hV : V ≤ 1000000) : BkS b.secs :=
 ⟨Nat.le_trans h.n hN, fun x hx => by have := h.vs x hx; omega, fun x hx => by have := h.vs x hx; omega, fun x hx t ht => (h.tx x hx t ht).small⟩
theorem OkB.pgs {b : Bk} {N V : Nat} (h : OkB b N V) : ∀ x ∈ b.secs, PgsOk b.ms b.ht 200 x.texts ∧ x.texts.length ≤ V := fun x hx =>
 ⟨fun t ht => by have := textP_ok (h.tx x hx t ht) h.m0 h.m1 h.h0 h.h1; exact ⟨this.2.1, this.2.2.1⟩, (h.vs x hx).2.2⟩
theorem OkB.np {b : Bk} {N V : Nat} (h : OkB b N V) : (pagesB b).length ≤ 200 * V * N :=
 Nat.le_trans (pagesS_len b.ms b.ht 200 V b.secs 0 fun x hx => ⟨fun t ht => ((h.pgs x hx).1 t ht).2, (h.pgs x hx).2⟩) (Nat.mul_le_mul_left _ h.n)
theorem OkB.bkI {b : Bk} {N V : Nat} (h : OkB b N V) (hN : N ≤ 1000) (hV : 200 * V * N ≤ 1000000) (hV' : V ≤ 1000) : BkI b :=
 ⟨h.bkS (by omega) (by omega), h.m0, h.m1, ⟨by have := h.h0; omega, h.h1⟩, fun x hx => (h.vs x hx).1, fun x hx t ht => txP_of (h.tx x hx t ht) h.m0 h.m1 h.h0 h.h1, Nat.le_trans h.np hV, fun x hx t ht p hp => by
  have h1 := (textP_ok (h.tx x hx t ht) h.m0 h.m1 h.h0 h.h1).2.2.2 p hp
  have := h.h1
  omega⟩
theorem OkB.okK {b : Bk} {N V : Nat} (h : OkB b N V) : OkK b :=
 ⟨fun x hx => ⟨200, (h.pgs x hx).1⟩, fun x hx => ⟨(h.vs x hx).2.1, (h.vs x hx).1⟩, h.ent⟩
end
end Go.Proofs.YtdbnddmncbjobaaGreatDoor