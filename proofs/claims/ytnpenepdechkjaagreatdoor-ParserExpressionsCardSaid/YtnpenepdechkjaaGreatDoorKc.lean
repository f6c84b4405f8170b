/- Numbers picked from a list: Around, Pick; the Maker's state, Next, done, node. -/
import Derived.Test.YtnpenepdechkjaaGreatDoorMh
import Derived.Test.YtnpenepdechkjaaGreatDoorQm
import Derived.Test.YtnpenepdechkjaaGreatDoorKb
namespace Go.Proofs.YtnpenepdechkjaaGreatDoor
open Go Go.RowKit

theorem neg_tmod_in (n m : Int) (h : n < 0) (h3 : 1 ≤ m) : (n + 1).tmod m ≤ 0 ∧ -(n + 1).tmod m < m := by
  have e : -((n + 1).tmod m) = (-(n + 1)) % m := by rw [← Int.neg_tmod, Int.tmod_eq_emod_of_nonneg (by omega)]
  have hb1 := Int.emod_nonneg (-(n + 1)) (show m ≠ 0 by omega)
  have hb2 := Int.emod_lt_of_pos (-(n + 1)) (show 0 < m by omega)
  omega
def arnd (n m : Int) : Int := (if n < 0 then -(n + 1) else n) % m
theorem arnd_in (n m : Int) (h : 1 ≤ m) : 0 ≤ arnd n m ∧ arnd n m < m :=
  ⟨Int.emod_nonneg _ (by omega), Int.emod_lt_of_pos _ (by omega)⟩
theorem arnd_neg {n m : Int} (h : n < 0) : -((n + 1).tmod m) = arnd n m := by
  unfold arnd
  rw [if_pos h, ← Int.neg_tmod, Int.tmod_eq_emod_of_nonneg (by omega)]
theorem arnd_pos {n m : Int} (h : ¬ n < 0) : n % m = arnd n m := by unfold arnd; rw [if_neg h]
theorem around_fn (n m : Int) (w : World) (h1 : -9223372036854775808 ≤ n) (h2 : n ≤ 9223372036854775807) (h3 : 1 ≤ m) (h4 : m ≤ 4000000000) :
    Calls Tryz.prog 94 #[.int .i64 n, .int .i64 m] w fun e w' => e = .returned (.int .i64 (arnd n m)) ∧ w = w' := by
  by_cases h : n < 0
  · have hb := neg_tmod_in n m h h3
    have HB := Lib.hid hb; clear hb
    have HE := Lib.hid (arnd_neg (m := m) h)
    go_enter Tryz.func94, Tryz.ntmps94
    go_wp2
    go_ret
    exact ⟨ret_int (by simpa using HE.out), rfl⟩
  · have HE := Lib.hid (arnd_pos (m := m) h)
    go_enter Tryz.func94, Tryz.ntmps94
    go_wp2
    go_ret
    exact ⟨ret_int (by simpa using HE.out), rfl⟩
theorem around_nat (n : Int) (m : Nat) (h3 : 1 ≤ m) : ∃ k : Nat, arnd n m = k ∧ k < m := by
  obtain ⟨a, b⟩ := arnd_in n m (by omega)
  exact ⟨(arnd n m).toNat, by omega, by omega⟩
def icf (n : Int) : List Value := [.int .i64 n]
/-- What Pick answers. -/
def pkI (l : List Int) (i m : Nat) : Int := match l[i]? with | some n => arnd n m | none => 0
theorem pk_nat (l : List Int) (i m : Nat) (h : 1 ≤ m) : ∃ k : Nat, pkI l i m = k ∧ k < m := by
  unfold pkI
  cases l[i]? with
  | none => exact ⟨0, rfl, by omega⟩
  | some n => exact around_nat n m h
set_option maxRecDepth 100000 in
theorem pick_any (A : Option Addr) (c : Nat) (l : List Int) (i m : Nat) (w : World) (hm : 1 ≤ m) (hm2 : m ≤ 2147483648) (hb : ∀ n ∈ l, -9223372036854775808 ≤ n ∧ n ≤ 9223372036854775807) (h : SL icf 1 w A l.length l) :
    Calls Tryz.prog 93 #[.slice A l.length c, .int .i64 i, .int .i64 m] w fun e w' => e = .returned (.int .i64 (pkI l i m)) ∧ w = w' := by
  by_cases hil : i < l.length
  · obtain ⟨b, off, n, rfl, hbb, hn, hmem, hc⟩ := h.at hil
    have HP := Lib.hid (show pkI l i m = arnd n m by unfold pkI; rw [hn])
    have hc0 := hc 0 (.int .i64 n) rfl
    rw [Nat.mul_one, Nat.add_zero] at hc0
    have HA := Lib.hid (fun X => around_fn n m X (hb n hmem).1 (hb n hmem).2 (by omega) (by omega))
    have hni : ¬ (l.length : Int) ≤ (i : Int) := by omega
    clear hc hn h
    go_enter Tryz.func93, Tryz.ntmps93
    go_wp2_with (first | (go_at_call 94; refine (HA.out _).mono ?_; rintro e w1 ⟨rfl, rfl⟩))
    go_ret
    exact ⟨ret_int (by rw [HP.out]), rfl⟩
  · have HP := Lib.hid (show pkI l i m = 0 by unfold pkI; rw [List.getElem?_eq_none (by omega)])
    have hni : (l.length : Int) ≤ (i : Int) := by omega
    clear h
    go_enter Tryz.func93, Tryz.ntmps93
    go_wp2
    go_ret
    exact ⟨ret_int (by rw [HP.out]), rfl⟩
/-- The Maker in its block. -/
structure MB (W : World) (b : Nat) (A : Option Addr) (c : Nat) (l : List Int) (a : Nat) : Prop where
  blk : W.heap[b]? = some (.cells #[.slice A l.length c, .int .i64 a] 71 (0, 0))
  row : SL icf 1 W A l.length l
  bd : ∀ n ∈ l, -9223372036854775808 ≤ n ∧ n ≤ 9223372036854775807
  old : 0 < l.length → ∀ x, A = some x → x.block ≠ b
  len : l.length ≤ 1000
  at_ : a ≤ 1000000
theorem MB.lt {W : World} {b : Nat} {A : Option Addr} {c : Nat} {l : List Int} {a : Nat} (h : MB W b A c l a) : b < W.heap.size := lt_of_block h.blk
theorem MB.ext {W W' : World} {b : Nat} {A : Option Addr} {c : Nat} {l : List Int} {a : Nat} (h : MB W b A c l a) (hx : Ext W W') : MB W' b A c l a := ⟨by rw [hx.block b h.lt]; exact h.blk, h.row.ext hx, h.bd, h.old, h.len, h.at_⟩
theorem MB.c0 {W : World} {b : Nat} {A : Option Addr} {c : Nat} {l : List Int} {a : Nat} (h : MB W b A c l a) : W.cell? ⟨b, 0, none⟩ = some (.slice A l.length c) := by rw [cell_of_row W _ _ _ 71 (0, 0) h.blk]; rfl
theorem MB.c1 {W : World} {b : Nat} {A : Option Addr} {c : Nat} {l : List Int} {a : Nat} (h : MB W b A c l a) : W.cell? ⟨b, 1, none⟩ = some (.int .i64 a) := by rw [cell_of_row W _ _ _ 71 (0, 0) h.blk]; rfl
theorem MB.fz {W : World} {b : Nat} {A : Option Addr} {c : Nat} {l : List Int} {a : Nat} (h : MB W b A c l a) (i : Nat) : W.frozen? ⟨b, i, none⟩ = false := frozen_of_row W _ i _ 71 h.blk
theorem SL.blocks0 {α : Type} {cf : α → List Value} {sz : Nat} {W W' : World} {A : Option Addr} {m : Nat} {l : List α} (h : SL cf sz W A m l) (hk : 0 < l.length → ∀ x, A = some x → x.block < W.heap.size → W'.heap[x.block]? = W.heap[x.block]?) : SL cf sz W' A m l := by
  by_cases h0 : 0 < l.length
  · exact h.blocks (hk h0)
  · exact ⟨h.1, fun h1 => absurd (h.1 ▸ h1) h0⟩
theorem MB.set {W : World} {b : Nat} {A : Option Addr} {c : Nat} {l : List Int} {a : Nat} (h : MB W b A c l a) (a' : Nat) (ha : a' ≤ 1000000) : MB (W.setCell ⟨b, 1, none⟩ (.int .i64 a')) b A c l a' :=
  ⟨(heap_setCell_same W b 1 _ 71 _ h.blk).trans rfl, h.row.blocks0 fun h0 x hx _ => heap_setCell_other W _ _ _ (h.old h0 x hx), h.bd, h.old, h.len, ha⟩
theorem MB.other {W : World} {b : Nat} {A : Option Addr} {c : Nat} {l : List Int} {a : Nat} (h : MB W b A c l a) {p : Addr} (hp : p.block ≠ b) (hA : 0 < l.length → ∀ x, A = some x → x.block ≠ p.block) (u : Value) : MB (W.setCell p u) b A c l a :=
  ⟨(heap_setCell_other W p b u (fun e => hp e.symm)).trans h.blk, h.row.blocks0 fun h0 x hx _ => heap_setCell_other W _ _ _ (hA h0 x hx), h.bd, h.old, h.len, h.at_⟩
set_option maxRecDepth 100000 in
theorem mnext_any {W : World} {b : Nat} {A : Option Addr} {c : Nat} {l : List Int} {a : Nat} (h : MB W b A c l a) (ha : a + 1 ≤ 1000000) (m : Nat) (hm : 1 ≤ m) (hm2 : m ≤ 2147483648) :
    Calls Tryz.prog 44 #[.pointer (some ⟨b, 0, none⟩), .int .i64 m] W (fun e W' => ∃ k : Nat, e = .returned (.int .i64 k) ∧ k < m ∧ MB W' b A c l (a + 1) ∧ Mv b W W') := by
  have h2 := h.set (a + 1) ha
  have hc1 := h.c1
  have hf1 := h.fz 1
  have HP := Lib.hid (fun X (hX : MB X b A c l (a + 1)) => pick_any A c l a m X hm hm2 h.bd hX.row)
  obtain ⟨k, hk, hkm⟩ := pk_nat l a m hm
  have HK := Lib.hid hk
  have HM := Lib.hid (show Mv b W (W.setCell ⟨b, 1, none⟩ (.int .i64 ((a + 1 : Nat) : Int))) from Mv.set _)
  have hbl := h.lt
  have hlt : (a : Int) + 1 ≤ 1000000 := by omega
  rw [show (((a + 1 : Nat)) : Int) = (a : Int) + 1 by omega] at h2 HM
  clear h hk
  go_enter Tryz.func44, Tryz.ntmps44
  go_upto_region 2 with (fail)
  clear hc1 hf1
  generalize W.setCell ⟨b, 1, none⟩ (.int .i64 ((a : Int) + 1)) = w1 at *
  have hc0 := h2.c0
  have hc1 := h2.c1
  rw [show (((a + 1 : Nat)) : Int) = (a : Int) + 1 by omega] at hc1
  have H2 := Lib.hid h2
  clear h2
  have he : (a : Int) + 1 - 1 = (a : Int) := by omega
  go_still_tail 10, (by kernel_rfl)
  change wpList _ _ _ _ _ w1.drew
  go_wp2_with (first | (go_at_call 93; refine (HP.out _ (H2.out.ext (Ext.refl _).drew)).mono ?_; rintro e w2 ⟨rfl, rfl⟩))
  go_ret
  exact ⟨k, ret_int HK.out, hkm, H2.out.ext (Ext.refl _).drew, HM.out.trans (Mv.of_ext (Ext.refl _).drew)⟩
set_option maxRecDepth 100000 in
theorem mdone_any {W : World} {b : Nat} {A : Option Addr} {c : Nat} {l : List Int} {a : Nat} (h : MB W b A c l a) (deep : Nat) (hd : deep ≤ 1000) :
    Calls Tryz.prog 95 #[.pointer (some ⟨b, 0, none⟩), .int .i64 deep] W (fun e W' => ∃ v : Bool, e = .returned (.bool v) ∧ (deep = 0 → v = true) ∧ Ext W W') := by
  have hc0 := h.c0
  have hc1 := h.c1
  have hbl := h.lt
  by_cases h0 : deep = 0
  · subst h0
    clear h
    go_enter Tryz.func95, Tryz.ntmps95
    go_wp2
    go_quiet (fail)
    go_wp2
    go_ret
    exact ⟨true, rfl, fun _ => rfl, (Ext.refl _).drewN _⟩
  · have hI : ¬ (deep : Int) ≤ 0 := by omega
    have hq : decide ((deep : Int) ≤ 0) = false := decide_eq_false hI
    have hq2 : decide (deep ≤ 0) = false := decide_eq_false (by omega)
    have hq3 : decide (deep = 0) = false := decide_eq_false h0
    have HN := Lib.hid h0
    clear h
    go_enter Tryz.func95, Tryz.ntmps95
    go_wp2
    go_quiet (fail)
    go_wp2
    go_ret
    exact ⟨_, rfl, fun h => absurd h HN.out, (Ext.refl _).drewN _⟩
/-! ### The state on the way through a maker's method -/
/-- W: where the method began; its result's cell is the block W.heap.size. -/
structure AS (W : World) (b : Nat) (A : Option Addr) (c : Nat) (l : List Int) (hi : Nat) (X : World) : Prop where
  mb : ∃ a, a ≤ hi ∧ MB X b A c l a
  mv : Mv b W X
  nx : NX X W.heap.size 0 0 ⟨#[]⟩ (.slice none 0 0)
  ltA : 0 < l.length → ∀ x, A = some x → x.block < W.heap.size
  ltb : b < W.heap.size
theorem AS.sz {W X : World} {b : Nat} {A : Option Addr} {c : Nat} {l : List Int} {hi : Nat} (h : AS W b A c l hi X) : W.heap.size < X.heap.size := lt_of_block h.nx
theorem AS.ext {W X X' : World} {b : Nat} {A : Option Addr} {c : Nat} {l : List Int} {hi : Nat} (h : AS W b A c l hi X) (hx : Ext X X') : AS W b A c l hi X' := by
  obtain ⟨a, h1, h2⟩ := h.mb
  exact ⟨⟨a, h1, h2.ext hx⟩, h.mv.trans (Mv.of_ext hx), h.nx.mv (b := W.heap.size + 1) (Mv.of_ext hx) (by omega), h.ltA, h.ltb⟩
theorem AS.more {W X : World} {b : Nat} {A : Option Addr} {c : Nat} {l : List Int} {hi hi' : Nat} (h : AS W b A c l hi X) (hh : hi ≤ hi') : AS W b A c l hi' X := by
  obtain ⟨a, h1, h2⟩ := h.mb
  exact ⟨⟨a, Nat.le_trans h1 hh, h2⟩, h.mv, h.nx, h.ltA, h.ltb⟩
theorem AS.next {W X : World} {b : Nat} {A : Option Addr} {c : Nat} {l : List Int} {hi : Nat} (h : AS W b A c l hi X) (ha : hi + 1 ≤ 1000000) (m : Nat) (hm : 1 ≤ m) (hm2 : m ≤ 2147483648) :
    Calls Tryz.prog 44 #[.pointer (some ⟨b, 0, none⟩), .int .i64 m] X (fun e X' => ∃ k : Nat, e = .returned (.int .i64 k) ∧ k < m ∧ AS W b A c l (hi + 1) X' ∧ Mv b X X') := by
  obtain ⟨a, h1, h2⟩ := h.mb
  refine (mnext_any h2 (by omega) m hm hm2).mono ?_
  rintro e X' ⟨k, he, hk, hmb, hmv⟩
  exact ⟨k, he, hk, ⟨⟨a + 1, by omega, hmb⟩, h.mv.trans hmv, h.nx.mv hmv (by have := h.ltb; omega), h.ltA, h.ltb⟩, hmv⟩
theorem AS.done {W X : World} {b : Nat} {A : Option Addr} {c : Nat} {l : List Int} {hi : Nat} (h : AS W b A c l hi X) (deep : Nat) (hd : deep ≤ 1000) :
    Calls Tryz.prog 95 #[.pointer (some ⟨b, 0, none⟩), .int .i64 deep] X (fun e X' => ∃ v : Bool, e = .returned (.bool v) ∧ (deep = 0 → v = true) ∧ Ext X X') := by
  obtain ⟨a, h1, h2⟩ := h.mb
  exact mdone_any h2 deep hd
/-- A row of strings. -/
structure SR (X : World) (g : Nat) (ss : List (List UInt8)) : Prop where
  lt : g < X.heap.size
  at_ : ∀ (j : Nat) (s : List UInt8), ss[j]? = some s → X.cell? ⟨g, j, none⟩ = some (.string (bs s))
theorem SR.mv {X X' : World} {b g : Nat} {ss : List (List UInt8)} (h : SR X g ss) (hm : Mv b X X') (hg : g ≠ b) : SR X' g ss := ⟨Nat.lt_of_lt_of_le h.lt hm.size, fun j s hs => by rw [World.cell?_of_block (a := ⟨g, j, none⟩) (hm.keep g hg h.lt)]; exact h.at_ j s hs⟩
theorem SR.new (X : World) (ss : List (List UInt8)) (cs : Array Value) (hcs : cs.toList = ss.map (fun s => .string (bs s))) : SR (X.alloc (.cells cs 9)) X.heap.size ss := ⟨by simp, fun j s hs => by
  rw [cell_of_row _ _ _ _ 9 (0, 0) (heap_alloc_new X _), ← Array.getElem?_toList, hcs, List.getElem?_map, hs]; rfl⟩
/-- What the method hands back. -/
def MPost (W : World) (b : Nat) (A : Option Addr) (c : Nat) (l : List Int) (hi : Nat) (G : Tr → Prop) (e : Ending) (X : World) : Prop :=
  ∃ (d : Nd) (t : Tr), e = .returned (.agg #[.int .i64 d.k, .int .i64 d.n, .string d.s, .slice d.A d.m d.c]) ∧ Rep X (fun k => W.heap.size ≤ k) d t ∧ G t ∧ (∃ a, a ≤ hi ∧ MB X b A c l a) ∧ Mv b W X
theorem AS.fin {W X : World} {b : Nat} {A : Option Addr} {c : Nat} {l : List Int} {hi hi' : Nat} {G : Tr → Prop} (h : AS W b A c l hi X) (hh : hi ≤ hi') (d : Nd) (t : Tr) (hR : Rep X (fun k => W.heap.size < k) d t) (hG : G t) :
    MPost W b A c l hi' G (.returned (.agg #[.int .i64 d.k, .int .i64 d.n, .string d.s, .slice d.A d.m d.c])) ((((X.setCell ⟨W.heap.size, 0, none⟩ (.int .i64 d.k)).setCell ⟨W.heap.size, 1, none⟩ (.int .i64 d.n)).setCell ⟨W.heap.size, 2, none⟩ (.string d.s)).setCell ⟨W.heap.size, 3, none⟩ (.slice d.A d.m d.c)) := by
  obtain ⟨a, h1, h2⟩ := h.mb
  have hb := h.ltb
  have hA := h.ltA
  have hA' : 0 < l.length → ∀ x, A = some x → x.block ≠ W.heap.size := fun h0 x hx => by have := hA h0 x hx; omega
  have hne : W.heap.size ≠ b := by omega
  refine ⟨d, t, rfl, (hR.keep (by simp) fun k hk _ => ?_).mono (fun k hk _ => Nat.le_of_lt hk), hG, ⟨a, by omega, ?_⟩, ?_⟩
  · rw [heap_setCell_other _ _ _ _ (by simp only; omega), heap_setCell_other _ _ _ _ (by simp only; omega), heap_setCell_other _ _ _ _ (by simp only; omega), heap_setCell_other _ _ _ _ (by simp only; omega)]
  · exact MB.other (MB.other (MB.other (MB.other h2 (p := ⟨W.heap.size, 0, none⟩) hne hA' _) (p := ⟨W.heap.size, 1, none⟩) hne hA' _) (p := ⟨W.heap.size, 2, none⟩) hne hA' _) (p := ⟨W.heap.size, 3, none⟩) hne hA' _
  · have hn := Nat.le_refl W.heap.size
    exact (((h.mv.setNew (p := ⟨W.heap.size, 0, none⟩) hn _).setNew (p := ⟨W.heap.size, 1, none⟩) hn _).setNew (p := ⟨W.heap.size, 2, none⟩) hn _).setNew (p := ⟨W.heap.size, 3, none⟩) hn _
/-- A made tree, held until the end. -/
def HT (W : World) (X : World) (d : Nd) (t : Tr) : Prop := Rep X (fun k => W.heap.size < k) d t
theorem HT.mv {W X X' : World} {b : Nat} {d : Nd} {t : Tr} (h : HT W X d t) (hm : Mv b X X') (hb : b < W.heap.size) : HT W X' d t := Rep.mv h hm (fun k hk => by omega)
/-- A call of a maker's method on the way. -/
theorem AS.sub {W X X' : World} {b : Nat} {A : Option Addr} {c : Nat} {l : List Int} {hi n : Nat} {G : Tr → Prop} {e : Ending} (h : AS W b A c l hi X) (hp : MPost X b A c l (hi + n) G e X') :
    ∃ (d : Nd) (t : Tr), e = .returned (.agg #[.int .i64 d.k, .int .i64 d.n, .string d.s, .slice d.A d.m d.c]) ∧ HT W X' d t ∧ G t ∧ AS W b A c l (hi + n) X' ∧ Mv b X X' := by
  obtain ⟨d, t, he, hr, hg, hmb, hmv⟩ := hp
  have hs := h.sz
  exact ⟨d, t, he, hr.mono (fun k hk _ => by omega), hg, ⟨hmb, h.mv.trans hmv, h.nx.mv hmv (by have := h.ltb; omega), h.ltA, h.ltb⟩, hmv⟩
/-- A node of kids in a row of their own. -/
theorem HT.node {W X : World} (hs : W.heap.size < X.heap.size) (k n : Int) (s : List UInt8) (ds : List Nd) (ts : List Tr) (cs : Array Value) (c : Nat) (hcs : cs.toList = gcells ndcf ds) (hl : ds.length = ts.length) (hd : ∀ (i : Nat) (h : Nd) (t : Tr), ds[i]? = some h → ts[i]? = some t → HT W X h t) :
    HT W (X.alloc (.cells cs 31)) ⟨k, n, bs s, some ⟨X.heap.size, 0, none⟩, ds.length, c⟩ (.nd k n s ts) :=
  .mk k n s _ c ds ts (fun x hx => by injection hx with hx; subst hx; exact ⟨hs, by simp⟩) (SL.new ndcf_len X ds cs hcs 31) hl (fun i h t h1 h2 => (hd i h t h1 h2).ext ((Ext.refl _).alloc _))
theorem HT.leaf (W X : World) (k n : Int) (s : List UInt8) : HT W X ⟨k, n, bs s, none, 0, 0⟩ (.nd k n s []) := Rep.leaf _ _ k n s
end Go.Proofs.YtnpenepdechkjaaGreatDoor
