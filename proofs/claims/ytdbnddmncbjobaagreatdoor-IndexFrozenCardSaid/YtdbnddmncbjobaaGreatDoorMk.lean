/- The lines of a generated book's pages: which words they bear; how many hits there are. -/
import Derived.Test.YtdbnddmncbjobaaGreatDoorMh
import Derived.Test.YtdbnddmncbjobaaGreatDoorMj
import Derived.Test.YtdbnddmncbjobaaGreatDoorMi
import Derived.Test.YtdbnddmncbjobaaGreatDoorMg
import Derived.Test.YtdbnddmncbjobaaGreatDoorMf
namespace Go.Proofs.YtdbnddmncbjobaaGreatDoor

def RngL (B : Nat) (x : Ln) : Prop := 0 ≤ x.fr ∧ x.un - x.fr ≤ 40 ∧ x.un ≤ (B : Nat)
theorem linesGo_rng (m : Int) : ∀ (ls : List Nat) (ws : List Wd) (first : Int), ∀ x ∈ linesGo m ws ls first, first ≤ x.fr ∧ x.un ≤ first + (ls.sum : Nat) ∧ x.un - x.fr ≤ (ls.sum : Nat)
  | [], ws, _, x, hx => by cases ws <;> simp [linesGo] at hx
  | l :: ls, ws, first, x, hx => by
    simp only [linesGo] at hx
    rcases List.mem_cons.1 hx with rfl | hx
    · simp only [List.sum_cons]; omega
    · have := linesGo_rng m ls _ _ x hx
      simp only [List.sum_cons]; omega
theorem setP_rng {m : Int} (hm : 500 ≤ m) (ws : List Wd) (first : Int) : ∀ x ∈ setP ws first m, first ≤ x.fr ∧ x.un ≤ first + (ws.length : Nat) ∧ x.un - x.fr ≤ (ws.length : Nat) := fun x hx => by
  have h := (lens_ok hm (wds_of ws)).2
  rw [List.length_map] at h
  have := linesGo_rng m _ ws first x hx
  rw [h] at this
  exact this
theorem setsP_rng {m : Int} (hm : 500 ≤ m) : ∀ (ps : List (List Wd)) (first : Int), (∀ p ∈ ps, p.length ≤ 40) → ∀ l ∈ setsP m ps first, ∀ x ∈ l, first ≤ x.fr ∧ x.un ≤ first + (wordsN ps : Nat) ∧ x.un - x.fr ≤ 40
  | [], _, _, l, hl, _, _ => by simp [setsP] at hl
  | p :: ps, first, hp, l, hl, x, hx => by
    simp only [setsP] at hl
    have hw : wordsN (p :: ps) = p.length + wordsN ps := by simp [wordsN]
    rcases List.mem_cons.1 hl with rfl | hl
    · have h1 := setP_rng hm p first x hx
      have h2 := hp p (.head _)
      rw [hw]; omega
    · have h1 := setsP_rng hm ps _ (fun q hq => hp q (.tail _ hq)) l hl x hx
      rw [hw]; omega
theorem words_le {ps : List (List Wd)} {B : Nat} (h : ∀ p ∈ ps, p.length ≤ B) : wordsN ps ≤ ps.length * B := by
  induction ps with
  | nil => simp [wordsN]
  | cons p ps ih =>
    have h1 := ih fun q hq => h q (.tail _ hq)
    have h2 := h p (.head _)
    have hw : wordsN (p :: ps) = p.length + wordsN ps := by simp [wordsN]
    rw [hw, List.length_cons, Nat.add_mul]; omega
theorem OkT.words {t : Tx} (h : OkT t) : wordsN t.paras ≤ 160 ∧ wordsN (t.paras ++ t.notes) ≤ 200 := by
  have h1 := words_le (B := 40) fun p hp => (h.par.len p hp).2
  have h2 := words_le (B := 12) fun p hp => (h.len p hp).2
  have h3 : wordsN (t.paras ++ t.notes) = wordsN t.paras + wordsN t.notes := by simp [wordsN]
  have := h.np
  have := h.nn
  omega
theorem textP_rng {t : Tx} (ht : OkT t) {m h : Int} (hm : 500 ≤ m) (hm2 : m ≤ 2000) (hh : 4 ≤ h) (hh2 : h ≤ 100) : ∀ pg ∈ (textP t m h).2, ∀ l ∈ pg.1 ++ pg.2, RngL 200 l := by
  have hT := txP_of ht hm hm2 hh hh2
  have hl : linesT t m = (0, (setsP m t.paras 0).flatten, setsP m t.notes (t.paras.map List.length).sum) := by
    unfold linesT
    rw [if_neg (by rw [chkT_ok ht]; simp), if_neg (by omega)]
  obtain ⟨hw1, hw2⟩ := ht.words
  have hw3 : wordsN (t.paras ++ t.notes) = wordsN t.paras + wordsN t.notes := by simp [wordsN]
  have hb : ∀ l ∈ (linesT t m).2.1, RngL 200 l := fun l hl' => by
    rw [hl] at hl'
    obtain ⟨ls, hls, hx⟩ := List.mem_flatten.1 hl'
    have := setsP_rng hm t.paras 0 (fun p hp => (ht.par.len p hp).2) ls hls l hx
    unfold RngL; omega
  have hn : ∀ ls ∈ (linesT t m).2.2, ∀ l ∈ ls, RngL 200 l := fun ls hls l hl' => by
    rw [hl] at hls
    have := setsP_rng hm t.notes _ (fun p hp => by have := (ht.len p hp).2; omega) ls hls l hl'
    have h9 : (t.paras.map List.length).sum = wordsN t.paras := rfl
    rw [h9] at this
    unfold RngL; omega
  rw [hT.eq]
  unfold setPg
  rw [if_neg (by rw [hT.pg]; simp)]
  exact setF_mem h hn _ _ _ hb (fun l hl => by simp at hl)
theorem OkB.rng {b : Bk} {N V : Nat} (h : OkB b N V) : ∀ p ∈ pagesB b, ∀ l ∈ p.body ++ p.nts, RngL 200 l := fun p hp =>
  pagesS_all (fun x y => ∀ l ∈ x ++ y, RngL 200 l) b.ms b.ht b.secs 0 (fun x hx t ht q hq => textP_rng (h.tx x hx t ht) h.m0 h.m1 h.h0 h.h1 q hq) p hp
/-- How many hits there are. -/
theorem hitW_len (br tb : Int) (ls : List Sea) (t : Tx) (p : Pg) (k : Nat) (n : Int) : (hitW br tb ls t p k n).length ≤ 1 := by
  unfold hitW
  split
  · simp
  · split <;> simp
theorem hitN_len (br tb : Int) (ls : List Sea) (t : Tx) (p : Pg) (k : Nat) (n : Int) : ∀ m : Nat, (hitN br tb ls t p k n m).length ≤ m
  | 0 => by simp [hitN]
  | m + 1 => by
    rw [hitN_succ, List.length_append]
    have := hitN_len br tb ls t p k n m
    have := hitW_len br tb ls t p k (n + (m : Nat))
    omega
theorem hitX_len (br tb : Int) (ls : List Sea) (t : Tx) (p : Pg) (k : Nat) {x : Ln} (h : RngL 200 x) : (hitX br tb ls t p k x).length ≤ 40 := by
  have := hitN_len br tb ls t p k x.fr (x.un - x.fr).toNat
  unfold hitX
  have := h.2.1
  omega
theorem hitL_len (br tb : Int) (ls : List Sea) (t : Tx) (p : Pg) (xs : List Ln) (h : ∀ x ∈ xs, RngL 200 x) : ∀ m : Nat, (hitL br tb ls t p xs m).length ≤ 40 * m
  | 0 => by simp [hitL]
  | m + 1 => by
    have ih := hitL_len br tb ls t p xs h m
    cases hx : xs[m]? with
    | none =>
      have : hitL br tb ls t p xs (m + 1) = hitL br tb ls t p xs m := by
        unfold hitL; rw [List.range_succ, List.flatMap_append]; simp [hx]
      rw [this]; omega
    | some x =>
      rw [hitL_succ br tb ls t p hx, List.length_append]
      have := hitX_len br tb ls t p m (h x (List.mem_of_getElem? hx))
      omega
theorem hitP_len {b : Bk} {N V : Nat} (h : OkB b N V) (br tb : Int) (ls : List Sea) {p : Pg} (hp : p ∈ pagesB b) : (hitP br tb ls b p).length ≤ 4000 := by
  unfold hitP
  split
  · simp
  · next t _ =>
    have h1 := hitL_len br tb ls t p (p.body ++ p.nts) (h.rng p hp) (p.body ++ p.nts).length
    have := h.hgt p hp
    exact Nat.le_trans h1 (by omega)
theorem flat_le {α β : Type} {f : α → List β} {B : Nat} : ∀ {l : List α}, (∀ x ∈ l, (f x).length ≤ B) → (l.flatMap f).length ≤ l.length * B
  | [], _ => by simp
  | x :: l, h => by
    have h1 := flat_le (l := l) fun y hy => h y (.tail _ hy)
    have h2 := h x (.head _)
    rw [List.flatMap_cons, List.length_append, List.length_cons, Nat.add_mul]
    omega
theorem hits_len {b : Bk} {N V : Nat} (h : OkB b N V) (hN : 200 * V * N ≤ 4000) (br tb : Int) (ls : List Sea) : (hits br tb ls b).length ≤ 16000000 := by
  have h1 := flat_le (f := hitP br tb ls b) (l := pagesB b) fun p hp => hitP_len h br tb ls hp
  have h2 := h.np
  unfold hits
  refine Nat.le_trans h1 (Nat.le_trans (Nat.mul_le_mul_right 4000 (Nat.le_trans h2 hN)) (by omega))
theorem hitW_key {t : Tx} (h : OkT t) {br tb : Int} {ls : List Sea} {p : Pg} {k : Nat} {n : Int} : ∀ x ∈ hitW br tb ls t p k n, x.1.length ≤ 1000 := fun ⟨key, c⟩ hx => by
  obtain ⟨w, hw, rfl, _⟩ := mem_hitW.1 hx
  obtain ⟨_, _, q, hq, hwq⟩ := wordT_lt hw
  rcases List.mem_append.1 hq with hq | hq
  · have := (h.par.ok q hq w hwq).2.2.2.2; simp only; omega
  · have := (h.ok q hq w hwq).1.2.2.2.2; simp only; omega
theorem textB_ok {b : Bk} {N V : Nat} (h : OkB b N V) {e v : Int} {t : Tx} (ht : textB b e v = some t) : OkT t := by
  obtain ⟨x, hx, _, k, _, h2⟩ := textB_mem ht
  exact h.tx x hx t (List.mem_of_getElem? h2)
theorem hits_key {b : Bk} {N V : Nat} (h : OkB b N V) {br tb : Int} {ls : List Sea} : ∀ x ∈ hits br tb ls b, x.1.length ≤ 1000 := fun ⟨key, c⟩ hx => by
  obtain ⟨p, hp, t, ht, i, x, hx, n, h2, h3, w, hw, rfl, _⟩ := mem_hits.1 hx
  obtain ⟨_, _, q, hq, hwq⟩ := wordT_lt hw
  have ho := textB_ok h ht
  rcases List.mem_append.1 hq with hq | hq
  · have := (ho.par.ok q hq w hwq).2.2.2.2; simp only; omega
  · have := (ho.ok q hq w hwq).1.2.2.2.2; simp only; omega
end Go.Proofs.YtdbnddmncbjobaaGreatDoor

/- index.Items: walked (printed by genyt.py). -/
namespace Go.Proofs.YtdbnddmncbjobaaGreatDoor
open Go Go.RowKit Go.Maps
attribute [local go_sem] Oper.semAt_some

theorem Kpt.extX {b : Nat} {K : Nat → Prop} {hs : List (List UInt8 × Ct)} {D : DV} {W0 W Y : World} (h : Kpt b K hs D W0 W) (hx : Ext W Y) : Kpt b K hs D W0 Y := h.ext hx.os hx.tape hx.output hx.size hx.block
theorem Kpt.narrowX {b : Nat} {K K' : Nat → Prop} {hs hs' : List (List UInt8 × Ct)} {D D' : DV} {W0 W Y Z : World} (h : Kpt b K hs D W0 W) (hx : Ext W Y) (h' : Kpt b K' hs' D' Y Z) (hK : ∀ j, K j → K' j) : Kpt b K hs' D' W0 Z := h.narrow hx.os hx.tape hx.output hx.size hx.block h' hK
theorem Kpt.base {b : Nat} {K : Nat → Prop} {hs : List (List UInt8 × Ct)} {D : DV} {w W0 W : World} (h : Kpt b K hs D W0 W) (hw : Ext w W0) (hK : ∀ j, j < w.heap.size → K j) : Ext w W :=
  ⟨h.os.trans hw.os, h.tape.trans hw.tape, h.output.trans hw.output, Nat.le_trans hw.size h.size, fun j hj => (h.block j (hK j hj)).trans (hw.block j hj)⟩
theorem Kpt.cell {b : Nat} {K : Nat → Prop} {hs : List (List UInt8 × Ct)} {D : DV} {W0 W : World} (h : Kpt b K hs D W0 W) {j : Nat} (hj : K j) {o : Nat} {v : Value} (hc : W0.cell? ⟨j, o, none⟩ = some v) : W.cell? ⟨j, o, none⟩ = some v := by
  unfold World.cell? at hc ⊢
  rw [h.block j hj]
  exact hc
/-- The hits of the first i pages. -/
def hsI (br tb : Int) (ls : List Sea) (b : Bk) (i : Nat) : List (List UInt8 × Ct) := ((pagesB b).take i).flatMap (hitP br tb ls b)
theorem hsI_len {b : Bk} {N V : Nat} (h : OkB b N V) (hN : 200 * V * N ≤ 4000) (br tb : Int) (ls : List Sea) (i : Nat) : (hsI br tb ls b i).length ≤ 16000000 := by
  have h1 := flat_le (f := hitP br tb ls b) (l := (pagesB b).take i) fun p hp => hitP_len h br tb ls (List.mem_of_mem_take hp)
  have h2 := h.np
  have h3 : ((pagesB b).take i).length ≤ 4000 := by rw [List.length_take]; omega
  unfold hsI
  exact Nat.le_trans h1 (Nat.le_trans (Nat.mul_le_mul_right 4000 h3) (by omega))
theorem hsI_succ (br tb : Int) (ls : List Sea) (b : Bk) {i : Nat} {p : Pg} (h : (pagesB b)[i]? = some p) : hsI br tb ls b (i + 1) = hsI br tb ls b i ++ hitP br tb ls b p := hits_take br tb ls b h
/-- One place, in a new row. -/
theorem ct_new (X : World) (c : Ct) : kCt.row (X.alloc (.cells #[.int .i64 c.br, .int .i64 c.nu, .int .i64 c.su, .int .i64 c.li] 69)) (fun j => False ∨ X.heap.size ≤ j) (some ⟨X.heap.size, 0, none⟩) 1 [c] :=
  (own_rowQ (own_new (k := kCt) (X := X) (base := X.heap.size) (P := fun _ => False) (x := c) (cs := #[.int .i64 c.br, .int .i64 c.nu, .int .i64 c.su, .int .i64 c.li]) (e := 69) (Nat.le_refl _) (kCt_rep.2 rfl))).2
def ItA (br tb : Int) (ls : List Sea) (b : Bk) (b0 B np : Nat) (K : Nat → Prop) (w2 : World) (s23 : Value) (W : World) : Prop :=
  ∃ (i : Nat) (D : DV), i ≤ np ∧ s23 = .int .i64 i ∧ GMap B b0 (hsI br tb ls b i).length (hsI br tb ls b i) D W ∧ Kpt b0 K (hsI br tb ls b i) D w2 W
def ItB (br tb : Int) (ls : List Sea) (t : Tx) (p : Pg) (xs : List Ln) (hs : List (List UInt8 × Ct)) (b0 B : Nat) (K : Nat → Prop) (w6 : World) (s45 : Value) (W : World) : Prop :=
  ∃ (k : Nat) (D : DV), k ≤ xs.length ∧ s45 = .int .i64 k ∧ GMap B b0 (hs ++ hitL br tb ls t p xs k).length (hs ++ hitL br tb ls t p xs k) D W ∧ Kpt b0 K (hs ++ hitL br tb ls t p xs k) D w6 W
def ItN (br tb : Int) (ls : List Sea) (t : Tx) (p : Pg) (k : Nat) (fr un : Int) (hs : List (List UInt8 × Ct)) (b0 B : Nat) (K : Nat → Prop) (w7 : World) (s16 : Value) (W : World) : Prop :=
  ∃ (m : Nat) (D : DV), m ≤ (un - fr).toNat ∧ s16 = .int .i64 (fr + (m : Nat)) ∧ GMap B b0 (hs ++ hitN br tb ls t p k fr m).length (hs ++ hitN br tb ls t p k fr m) D W ∧ Kpt b0 K (hs ++ hitN br tb ls t p k fr m) D w7 W
def itM (un : Int) (s16 : Value) : Nat := match s16 with | .int _ z => (un - z).toNat | _ => 0
set_option maxHeartbeats 4000000 in
set_option maxRecDepth 100000 in
theorem iitems_any (P Q : Nat → Prop) (w : World) (b : Bk) (N V : Nat) (br tb : Int) (ls : List Sea) (A A2 : Option Addr) (Nn c n2 c2 : Nat) (hok : OkB b N V) (hN : N ≤ 1000) (hV : V ≤ 1000) (hNV : 200 * V * N ≤ 4000) (hr : kSe.row w P A Nn b.secs) (hsl : kSea.row w Q A2 n2 ls) (hn2 : n2 ≤ 1000000) (hgr : ∀ s ∈ ls, 0 ≤ s.gr ∧ s.gr ≤ 15) (hL : EnvW w) :
    Calls Tryz.prog 19 #[.agg #[.int .i64 b.ms, .int .i64 b.ht, .slice A Nn c], .int .i64 br, .int .i64 tb, .slice A2 n2 c2] w fun e w' => ∃ A1 n1 c1, e = .returned (.slice A1 n1 c1) ∧ TbH w' A1 n1 c1 (hits br tb ls b) ∧ Ext w w' := by
  have hmm := @run_makeMap Tryz.prog
  have hbi := hok.bkI hN (by omega) hV
  have HOK := Lib.hid hok
  have HBI := Lib.hid hbi
  have HLEN := Lib.hid (fun i => hsI_len hok hNV br tb ls i)
  obtain ⟨z, hz⟩ : ∃ z, w.heap.size = z := ⟨_, rfl⟩
  obtain ⟨w0, hw0⟩ : ∃ w0, w.alloc (.cells #[.int .i64 b.ms, .int .i64 b.ht, .slice A Nn c] 27) = w0 := ⟨_, rfl⟩
  have hx0 : Ext w w0 := by rw [← hw0]; exact (Ext.refl w).alloc _
  have hB0 : w0.heap[z]? = some (.cells #[.int .i64 b.ms, .int .i64 b.ht, .slice A Nn c] 27 (0, 0)) := by rw [← hw0, ← hz]; exact heap_alloc_new _ _
  have hs0 : w0.heap.size = z + 1 := by rw [← hw0, ← hz]; simp
  obtain ⟨w1, hw1⟩ : ∃ w1, w0.alloc (.map #[] 0) = w1 := ⟨_, rfl⟩
  have hx1 : Ext w0 w1 := by rw [← hw1]; exact (Ext.refl w0).alloc _
  have hg1 : GMap (z + 1 + 1) (z + 1) 0 [] (.map []) w1 := by rw [← hw1, ← hs0]; exact GMap.made w0
  have hs1 : w1.heap.size = z + 2 := by rw [← hw1]; simp [hs0]
  have hB1 := (hx1.block _ (lt_of_block hB0)).trans hB0
  have a0 := cell_of hB1 (i := 0) rfl
  have a1 := cell_of hB1 (i := 1) rfl
  have a2 := cell_of hB1 (i := 2) rfl
  have HPG := Lib.hid (pages_any P w1 b A Nn c hbi (Lay.row_ext hr (hx0.trans hx1)) (hL.ext (hx0.trans hx1)))
  have HR := Lib.hid (show kSe.row w (fun j => j < w.heap.size) A Nn b.secs from Lay.row_mono hr fun j _ hj => hj)
  have HSL := Lib.hid (show kSea.row w (fun j => j < w.heap.size) A2 n2 ls from Lay.row_mono hsl fun j _ hj => hj)
  have HX0 := Lib.hid hx0
  have HX1 := Lib.hid hx1
  have HG1 := Lib.hid hg1
  have HS1' := Lib.hid hs1
  have HB1 := Lib.hid hB1
  have HZ := Lib.hid hz
  clear hr hsl hL hx0 hB0 hx1 hg1 hs1 hB1 hbi hok
  go_enter Tryz.func19, Tryz.ntmps19
  go_wp2_with (first | (go_at_call 55; refine (HPG.out).mono ?_; rintro e w2 ⟨Ap, np, cp, rfl, hnp1, hnp2, hrp, hx2⟩; have HRP := Lib.hid hrp; have HX2 := Lib.hid hx2; clear hrp hx2))
  clear hw0 hw1 hz hs0 a0 a1 a2 HPG
  obtain ⟨B, hB⟩ : ∃ B, w2.heap.size = B := ⟨_, rfl⟩
  obtain ⟨b0, hb0⟩ : ∃ b0, z + 1 = b0 := ⟨_, rfl⟩
  rw [hb0] at HG1 ⊢
  have hBb : b0 + 1 ≤ B := by have := HX2.out.lt; have := HS1'.out; omega
  have HBB := Lib.hid (show z < b0 ∧ b0 < B ∧ w2.heap.size = B ∧ w.heap.size = z ∧ w1.heap.size = b0 + 1 ∧ z + 1 = b0 from ⟨by omega, by omega, hB, HZ.out, by have := HS1'.out; omega, hb0⟩)
  have HXW2 := Lib.hid (HX0.out.trans (HX1.out.trans HX2.out))
  obtain ⟨K1, hK1⟩ : ∃ K1 : Nat → Prop, (fun j => j < B ∧ j ≠ b0) = K1 := ⟨_, rfl⟩
  have HK1 := Lib.hid (show ∀ j, K1 j ↔ j < B ∧ j ≠ b0 from fun j => by rw [← hK1])
  have HPR := Lib.hid (show kPg.row w2 K1 Ap np (pagesB b) from Lay.row_mono HRP.out fun j hj hjl => (HK1.out j).2 (by have := HBB.out; omega))
  have HZB := Lib.hid ((HX2.out.block _ (lt_of_block HB1.out)).trans HB1.out)
  have HNP := Lib.hid (Lay.row_len HRP.out)
  have HG2 := Lib.hid (show GMap B b0 0 [] (.map []) w2 from (HG1.out.keep HX2.out.grown).raise (by have := HBB.out; omega))
  have HKP2 := Lib.hid (show Kpt b0 K1 [] (.map []) w2 w2 from Kpt.start (fun k v hc => absurd rfl hc) (fun h9 => ((HK1.out b0).1 h9).2 rfl) fun j hj => by have := ((HK1.out j).1 hj).1; omega)
  clear hBb hb0 hB hK1 HRP HB1 HG1
  go_loopw [11, 12, 13, 14, 15, 16, 17, 18, 23] (fun _ _ _ _ _ _ _ _ s23 W => ItA br tb ls b b0 B np K1 w2 s23 W) (fun _ _ _ _ _ _ _ _ s23 _ => toM np s23)
  case atStart => exact ⟨0, .map [], by omega, rfl, HG2.out, HKP2.out⟩
  case round =>
    obtain ⟨i, D, hi, rfl, hgm, hkp⟩ := hrel
    have HGM := Lib.hid hgm
    have HKP := Lib.hid hkp
    have HEX := Lib.hid (show Ext w wr from hkp.base HXW2.out fun j hj => (HK1.out j).2 (by have := HBB.out; omega))
    have HSZ := Lib.hid (show B ≤ wr.heap.size by have := hkp.size; have := HBB.out; omega)
    clear hgm hkp
    have hwi : IntKind.i64.wrap ((i : Int) + 1) = (i : Int) + 1 := IntWalk.i64_in _ (by omega)
    by_cases hlt : i < np
    case neg =>
      have hni : ¬ ((i : Int) < (np : Int)) := by omega
      have hti : hsI br tb ls b i = hits br tb ls b := by
        unfold hsI hits
        rw [List.take_of_length_le (by rw [← HNP.out]; omega)]
      have hl9 := HLEN.out i
      have hgm9 := HGM.out
      rw [hti] at hgm9 hl9
      have HIT := Lib.hid (items_any wr B b0 _ (hits br tb ls b) D hgm9 HSZ.out (by omega) (hits_key HOK.out))
      clear hgm9 hti hl9
      go_wp2_with (first | (go_at_call 57; refine (HIT.out).mono ?_; rintro e w5 ⟨A5, m5, c5, rfl, hT5, hb5⟩; have HT5 := Lib.hid hT5; have HB5 := Lib.hid hb5; clear hT5 hb5))
      go_ret
      refine ⟨A5, m5, c5, rfl, HT5.out, ?_⟩
      have h1 := HB5.out
      have h3 := HEX.out
      exact ⟨h1.os.trans h3.os, h1.tape.trans h3.tape, h1.output.trans h3.output, Nat.le_trans h3.size h1.size, fun j hj => (h1.block j (by have := HBB.out; omega)).trans (h3.block j hj)⟩
    have hI : (i : Int) < (np : Int) := by omega
    obtain ⟨p, hp⟩ : ∃ p, (pagesB b)[i]? = some p := ⟨_, List.getElem?_eq_getElem (by rw [← HNP.out]; exact hlt)⟩
    have hpm := List.mem_of_getElem? hp
    have hrw : kPg.row wr K1 Ap np (pagesB b) := Lay.row_keep HPR.out HKP.out.size fun j hj _ => HKP.out.block j hj
    obtain ⟨gb, off, cs, rfl, hgbl, _, hrep, hcs⟩ := Lay.row_at hrw hp
    obtain ⟨A7, n7, c7, A8, n8, c8, rfl, hn7, hn8, r7, r8⟩ := kPg_rep.1 hrep
    have y0 := fun o => (((Ext.refl wr).alloc o).cells.1 gb _ hgbl).trans (hcs 0 _ rfl)
    have y1 := fun o => (((Ext.refl wr).alloc o).cells.1 gb _ hgbl).trans (hcs 1 _ rfl)
    have y2 := fun o => (((Ext.refl wr).alloc o).cells.1 gb _ hgbl).trans (hcs 2 _ rfl)
    have y3 := fun o => (((Ext.refl wr).alloc o).cells.1 gb _ hgbl).trans (hcs 3 _ rfl)
    have y4 := fun o => (((Ext.refl wr).alloc o).cells.1 gb _ hgbl).trans (hcs 4 _ rfl)
    have y5 := fun o => (((Ext.refl wr).alloc o).cells.1 gb _ hgbl).trans (hcs 5 _ rfl)
    have x0 := hcs 0 _ rfl
    have x1 := hcs 1 _ rfl
    have x2 := hcs 2 _ rfl
    have x3 := hcs 3 _ rfl
    have x4 := hcs 4 _ rfl
    have x5 := hcs 5 _ rfl
    rw [kPg_sz] at x0 x1 x2 x3 x4 x5
    rw [Nat.add_zero] at x0
    simp only [kPg_sz, Nat.add_zero] at y0 y1 y2 y3 y4 y5
    obtain ⟨z11, hz11⟩ : ∃ z11, wr.heap.size = z11 := ⟨_, rfl⟩
    obtain ⟨w3, hw3⟩ : ∃ w3, wr.alloc (.cells #[.int .i64 p.num, .int .i64 p.suf, .int .i64 p.ent, .int .i64 p.ver, .slice A7 n7 c7, .slice A8 n8 c8] 84) = w3 := ⟨_, rfl⟩
    have hx3 : Ext wr w3 := by rw [← hw3]; exact (Ext.refl wr).alloc _
    have hB3 : w3.heap[z11]? = some (.cells #[.int .i64 p.num, .int .i64 p.suf, .int .i64 p.ent, .int .i64 p.ver, .slice A7 n7 c7, .slice A8 n8 c8] 84 (0, 0)) := by rw [← hw3, ← hz11]; exact heap_alloc_new _ _
    have HB3 := Lib.hid hB3
    have HX3 := Lib.hid hx3
    have hzb : w3.heap[z]? = some (.cells #[.int .i64 b.ms, .int .i64 b.ht, .slice A Nn c] 27 (0, 0)) := (hx3.block z (by have := HBB.out; have := HSZ.out; omega)).trans ((HKP.out.block z ((HK1.out z).2 (by have := HBB.out; omega))).trans HZB.out)
    have a0 := cell_of hzb (i := 0) rfl
    have a1 := cell_of hzb (i := 1) rfl
    have a2 := cell_of hzb (i := 2) rfl
    have e2 := cell_of hB3 (i := 2) rfl
    have e3 := cell_of hB3 (i := 3) rfl
    have HTX := Lib.hid (btext_any _ w3 b p.ent p.ver A Nn c (Lay.row_ext HR.out (HEX.out.trans hx3)) HBI.out.s HBI.out.vs)
    have HR7 := Lib.hid r7
    have HR8 := Lib.hid r8
    have HP := Lib.hid hp
    have HPM := Lib.hid hpm
    have HZ11 := Lib.hid hz11
    clear hrw hrep hcs r7 r8 hp hpm hx3 hB3 hzb
    cases ht : textB b p.ent p.ver with
    | none =>
      have HT := Lib.hid ht
      rw [ht] at HTX
      clear ht
      go_wp2_with (first | (go_at_call 52; refine (HTX.out).mono ?_; rintro e w4 ⟨A5, n5, c5, A6, n6, c6, rfl, hn5, hn6, r5, r6, hx4⟩; have HX4 := Lib.hid hx4; clear r5 r6 hx4; simp only [Option.isSome_none]))
      go_roundw
      case rel =>
        have hx5 := (HX3.out.trans HX4.out).alloc (.cells #[.slice A5 n5 c5, .slice A6 n6 c6] 53)
        have h0 : hsI br tb ls b (i + 1) = hsI br tb ls b i := by
          rw [hsI_succ br tb ls b HP.out]
          unfold hitP
          rw [HT.out]
          simp
        refine ⟨i + 1, D, by omega, by simp, ?_, ?_⟩
        · rw [h0]; exact HGM.out.keep hx5.grown
        · rw [h0]; exact HKP.out.extX hx5
      case measure => simp only [toM]; omega
    | some t =>
      have HT := Lib.hid ht
      rw [ht] at HTX
      clear ht
      go_upto_region 7 with (first | (go_at_call 52; refine (HTX.out).mono ?_; rintro e w4 ⟨A5, n5, c5, A6, n6, c6, rfl, hn5, hn6, r5, r6, hx4⟩; have HX4 := Lib.hid hx4; simp only [Option.getD_some] at r5 r6; have HR5 := Lib.hid r5; have HR6 := Lib.hid r6; clear r5 r6 hx4; simp only [Option.isSome_some]))
      obtain ⟨w5, hw5⟩ : ∃ w5, w4.alloc (.cells #[.slice A5 n5 c5, .slice A6 n6 c6] 53) = w5 := ⟨_, rfl⟩
      obtain ⟨z12, hz12⟩ : ∃ z12, w4.heap.size = z12 := ⟨_, rfl⟩
      have hx5 : Ext w4 w5 := by rw [← hw5]; exact (Ext.refl w4).alloc _
      have hB5 : w5.heap[z12]? = some (.cells #[.slice A5 n5 c5, .slice A6 n6 c6] 53 (0, 0)) := by rw [← hw5, ← hz12]; exact heap_alloc_new _ _
      rw [hw5, hz12]
      have hx35 := HX4.out.trans hx5
      have HX5 := Lib.hid (HX3.out.trans hx35)
      have HB5 := Lib.hid hB5
      have hB35 := (hx35.block _ (lt_of_block HB3.out)).trans HB3.out
      have HR5' := Lib.hid (Lay.row_ext HR5.out hx5)
      have HR6' := Lib.hid (Lay.row_ext HR6.out hx5)
      have HZ12 := Lib.hid (show wr.heap.size ≤ z12 ∧ z12 < w5.heap.size by rw [← hz12]; exact ⟨(HX3.out.trans HX4.out).lt, by rw [hz12]; exact lt_of_block hB5⟩)
      have HZ11' := Lib.hid (show wr.heap.size ≤ z11 ∧ z11 < w5.heap.size by rw [HZ11.out]; exact ⟨Nat.le_refl _, lt_of_block hB35⟩)
      have HB35 := Lib.hid hB35
      have e4 := cell_of hB35 (i := 4) rfl
      have e5 := cell_of hB35 (i := 5) rfl
      have hgt := HOK.out.hgt p HPM.out
      rw [List.length_append] at hgt
      have HCAT := Lib.hid (fun T => cat56 kLn kLn_sz K1 (w5.alloc (.cells #[.slice A7 n7 c7, .slice A8 n8 c8] T)) w5.heap.size A7 A8 n7 n8 c7 c8 p.body p.nts (Lay.row_ext HR7.out (HX5.out.alloc _)) (Lay.row_ext HR8.out (HX5.out.alloc _)) (by rw [Lay.row_len HR7.out]; omega) (by rw [Lay.row_len HR8.out]; omega) (by simp) (cell_of (heap_alloc_new w5 _) (i := 0) rfl) (cell_of (heap_alloc_new w5 _) (i := 1) rfl))
      clear hx5 hB5 hw5 hz12 hx35 hB35 a0 a1 a2 e2 e3 y0 y1 y2 y3 y4 y5 x0 x1 x2 x3 x4 x5 hw3 hz11
      obtain ⟨xs, hxs⟩ : ∃ xs, p.body ++ p.nts = xs := ⟨_, rfl⟩
      rw [hxs] at HCAT
      have hxl : xs.length ≤ 100 := by rw [← hxs, List.length_append]; exact hgt
      have HXS := Lib.hid hxs
      have HRNG := Lib.hid (show ∀ l ∈ xs, RngL 200 l by rw [← hxs]; exact HOK.out.rng p HPM.out)
      clear hxs hgt
      obtain ⟨L, hL⟩ : ∃ L, xs.length = L := ⟨_, rfl⟩
      rw [hL] at hxl
      have HL := Lib.hid hL
      clear hL
      go_wp2_with (first | (go_at_call 56; refine (HCAT.out _).mono ?_; rintro e w6 ⟨A9, c9, rfl, ho9, hx6⟩; have HO9 := Lib.hid ho9; have HX6 := Lib.hid (((Ext.refl w5).alloc _).trans hx6); have HSL9 := Lib.hid hx6.lt; clear ho9 hx6; rw [HL.out] at HO9 ⊢))
      obtain ⟨K2, hK2⟩ : ∃ K2 : Nat → Prop, (fun j => K1 j ∨ (wr.heap.size ≤ j ∧ j < w6.heap.size)) = K2 := ⟨_, rfl⟩
      have HK2 := Lib.hid (show ∀ j, K2 j ↔ K1 j ∨ (wr.heap.size ≤ j ∧ j < w6.heap.size) from fun j => by rw [← hK2])
      have HXR6 := Lib.hid (HX5.out.trans HX6.out)
      have HKP6 := Lib.hid (show Kpt b0 K2 (hsI br tb ls b i) D w6 w6 by rw [← hK2]; exact HKP.out.widen HGM.out HXR6.out.lt)
      have HGM6 := Lib.hid (HGM.out.keep HXR6.out.grown)
      have HLR := Lib.hid (show kLn.row w6 K2 A9 L xs from by
        obtain ⟨A10, c10, e10, _, hr10⟩ := Lay.own_row HO9.out
        have hlt9 := Lay.own_lt HO9.out
        obtain ⟨q1, q2, _⟩ := Value.slice.inj e10
        rw [← q1, ← q2] at hr10
        refine Lay.row_mono hr10 fun j hj hjl => (HK2.out j).2 ?_
        rcases hj with hj | hj
        · exact .inl hj
        · have h8 := (hlt9 j hj).1
          simp at h8
          exact .inr ⟨by have := HX5.out.lt; omega, hjl⟩)
      have HTR5 := Lib.hid (show kWs.row w6 K2 A5 n5 t.paras from Lay.row_ext (Lay.row_mono HR5'.out fun j hj hjl => (HK2.out j).2 (.inr ⟨by have := HX3.out.lt; omega, by have := HX6.out.lt; omega⟩)) HX6.out)
      have HTR6 := Lib.hid (show kWs.row w6 K2 A6 n6 t.notes from Lay.row_ext (Lay.row_mono HR6'.out fun j hj hjl => (HK2.out j).2 (.inr ⟨by have := HX3.out.lt; omega, by have := HX6.out.lt; omega⟩)) HX6.out)
      have HP6 := Lib.hid (show w6.heap[z11]? = some (.cells #[.int .i64 p.num, .int .i64 p.suf, .int .i64 p.ent, .int .i64 p.ver, .slice A7 n7 c7, .slice A8 n8 c8] 84 (0, 0)) ∧ K2 z11 from ⟨(HX6.out.block _ HZ11'.out.2).trans HB35.out, (HK2.out _).2 (.inr ⟨HZ11'.out.1, by have := HX6.out.lt; have := HZ11'.out; omega⟩)⟩)
      have HT6 := Lib.hid (show w6.heap[z12]? = some (.cells #[.slice A5 n5 c5, .slice A6 n6 c6] 53 (0, 0)) ∧ K2 z12 from ⟨(HX6.out.block _ HZ12.out.2).trans HB5.out, (HK2.out _).2 (.inr ⟨HZ12.out.1, by have := HX6.out.lt; have := HZ12.out; omega⟩)⟩)
      have HSE := Lib.hid (show ∀ X : World, w6.heap.size ≤ X.heap.size → (∀ j, K2 j → X.heap[j]? = w6.heap[j]?) → kSea.row X K2 A2 n2 ls from fun X h1 h2 => Lay.row_keep (Lay.row_mono (Lay.row_ext HSL.out (HEX.out.trans HXR6.out)) fun j hj _ => (HK2.out j).2 (.inl ((HK1.out j).2 (by have := HBB.out; omega)))) h1 fun j hj _ => h2 j hj)
      clear hK2 e4 e5 HO9 HCAT HTX HR5 HR6 HR5' HR6' HB5 HB35 HZ11' HZ12 HR7 HR8 HB3 HSL9
      have HHI := Lib.hid (show ∀ D' W, GMap B b0 (hsI br tb ls b i ++ hitL br tb ls t p xs L).length (hsI br tb ls b i ++ hitL br tb ls t p xs L) D' W → Kpt b0 K2 (hsI br tb ls b i ++ hitL br tb ls t p xs L) D' w6 W → ItA br tb ls b b0 B np K1 w2 (.int .i64 ((i : Int) + 1)) W from fun D' W g1 g2 => by
        have h0 : hsI br tb ls b (i + 1) = hsI br tb ls b i ++ hitL br tb ls t p xs L := by
          rw [hsI_succ br tb ls b HP.out]
          unfold hitP
          rw [HT.out, HXS.out]
          simp only
          rw [HL.out]
        exact ⟨i + 1, D', by omega, by simp, by rw [h0]; exact g1, by rw [h0]; exact HKP.out.narrowX HXR6.out g2 fun j hj => (HK2.out j).2 (.inl hj)⟩)
      have hhs := HLEN.out i
      generalize hsI br tb ls b i = hs at HKP HGM HKP6 HGM6 HHI hhs
      go_loopw [14, 15, 16, 17, 18, 45] (fun _ _ _ _ _ s45 W => ItB br tb ls t p xs hs b0 B K2 w6 s45 W) (fun _ _ _ _ _ s45 _ => toM L s45)
      case atStart => exact ⟨0, D, by omega, rfl, by have h9 := HGM6.out; simpa [hitL] using h9, by have h9 := HKP6.out; simpa [hitL] using h9⟩
      case round =>
        obtain ⟨k, D2, hk, rfl, hgm, hkp⟩ := hrel
        rename World => wq
        rw [HL.out] at hk
        have HGM2 := Lib.hid hgm
        have HKP2' := Lib.hid hkp
        clear hgm hkp
        have hwk : IntKind.i64.wrap ((k : Int) + 1) = (k : Int) + 1 := IntWalk.i64_in _ (by omega)
        by_cases hkl : k < L
        case neg =>
          obtain rfl : k = L := by omega
          have hnk : ¬ ((k : Int) < (k : Int)) := by omega
          have HREL := Lib.hid (HHI.out D2 wq HGM2.out HKP2'.out)
          go_wp2_with fail
          go_roundw
          case rel => exact HREL.out
          case measure => simp only [toM]; omega
        have hkI : (k : Int) < (L : Int) := by omega
        obtain ⟨l, hl⟩ : ∃ l, xs[k]? = some l := ⟨_, List.getElem?_eq_getElem (by rw [HL.out]; exact hkl)⟩
        have hrg := HRNG.out l (List.mem_of_getElem? hl)
        have hlr : kLn.row wq K2 A9 L xs := Lay.row_keep HLR.out HKP2'.out.size fun j hj _ => HKP2'.out.block j hj
        obtain ⟨gl, ol, cs, rfl, hgl, _, hrep, hcs⟩ := Lay.row_at hlr hl
        obtain ⟨A3, n3, c3, A4, n4, c4, rfl, _, _, _, _⟩ := kLn_rep.1 hrep
        have y0 := fun o => (((Ext.refl wq).alloc o).cells.1 gl _ hgl).trans (hcs 0 _ rfl)
        have y1 := fun o => (((Ext.refl wq).alloc o).cells.1 gl _ hgl).trans (hcs 1 _ rfl)
        have y2 := fun o => (((Ext.refl wq).alloc o).cells.1 gl _ hgl).trans (hcs 2 _ rfl)
        have y3 := fun o => (((Ext.refl wq).alloc o).cells.1 gl _ hgl).trans (hcs 3 _ rfl)
        have x0 := hcs 0 _ rfl
        have x1 := hcs 1 _ rfl
        have x2 := hcs 2 _ rfl
        have x3 := hcs 3 _ rfl
        rw [kLn_sz] at x0 x1 x2 x3
        rw [Nat.add_zero] at x0
        simp only [kLn_sz, Nat.add_zero] at y0 y1 y2 y3
        obtain ⟨z15, hz15⟩ : ∃ z15, wq.heap.size = z15 := ⟨_, rfl⟩
        obtain ⟨w7, hw7⟩ : ∃ w7, wq.alloc (.cells #[.int .i64 l.fr, .int .i64 l.un, .slice A3 n3 c3, .slice A4 n4 c4] 86) = w7 := ⟨_, rfl⟩
        have hx7 : Ext wq w7 := by rw [← hw7]; exact (Ext.refl wq).alloc _
        have hB7 : w7.heap[z15]? = some (.cells #[.int .i64 l.fr, .int .i64 l.un, .slice A3 n3 c3, .slice A4 n4 c4] 86 (0, 0)) := by rw [← hw7, ← hz15]; exact heap_alloc_new _ _
        have HX7 := Lib.hid hx7
        have HB7 := Lib.hid hB7
        have e0 := cell_of hB7 (i := 0) rfl
        obtain ⟨K3, hK3⟩ : ∃ K3 : Nat → Prop, (fun j => K2 j ∨ (wq.heap.size ≤ j ∧ j < w7.heap.size)) = K3 := ⟨_, rfl⟩
        have HK3 := Lib.hid (show ∀ j, K3 j ↔ K2 j ∨ (wq.heap.size ≤ j ∧ j < w7.heap.size) from fun j => by rw [← hK3])
        have HKP7 := Lib.hid (show Kpt b0 K3 (hs ++ hitL br tb ls t p xs k) D2 w7 w7 by rw [← hK3]; exact HKP2'.out.widen HGM2.out hx7.lt)
        have HGM7 := Lib.hid (HGM2.out.keep hx7.grown)
        have HKZ15 := Lib.hid ((HK3.out z15).2 (.inr ⟨by omega, lt_of_block hB7⟩))
        have HX26 := Lib.hid (show ∀ j, K2 j → w7.heap[j]? = w6.heap[j]? from fun j hj => (hx7.block j (Nat.lt_of_lt_of_le (HKP2'.out.lt j hj) HKP2'.out.size)).trans (HKP2'.out.block j hj))
        have HS67 := Lib.hid (show w6.heap.size ≤ w7.heap.size from Nat.le_trans HKP2'.out.size hx7.lt)
        have HLK := Lib.hid (show ∀ D' W, GMap B b0 ((hs ++ hitL br tb ls t p xs k) ++ hitN br tb ls t p k l.fr (l.un - l.fr).toNat).length ((hs ++ hitL br tb ls t p xs k) ++ hitN br tb ls t p k l.fr (l.un - l.fr).toNat) D' W → Kpt b0 K3 ((hs ++ hitL br tb ls t p xs k) ++ hitN br tb ls t p k l.fr (l.un - l.fr).toNat) D' w7 W → ItB br tb ls t p xs hs b0 B K2 w6 (.int .i64 ((k : Int) + 1)) W from fun D' W g1 g2 => by
          have h0 : hs ++ hitL br tb ls t p xs (k + 1) = (hs ++ hitL br tb ls t p xs k) ++ hitN br tb ls t p k l.fr (l.un - l.fr).toNat := by
            rw [hitL_succ br tb ls t p hl, ← List.append_assoc]; rfl
          exact ⟨k + 1, D', by rw [HL.out]; omega, by simp, by rw [h0]; exact g1, by rw [h0]; exact HKP2'.out.narrowX HX7.out g2 fun j hj => (HK3.out j).2 (.inl hj)⟩)
        have hhk : (hitL br tb ls t p xs k).length ≤ 4000 := Nat.le_trans (hitL_len br tb ls t p xs HRNG.out k) (by omega)
        have hhs2 : (hs ++ hitL br tb ls t p xs k).length ≤ 16004000 := by rw [List.length_append]; omega
        generalize hs ++ hitL br tb ls t p xs k = hs2 at HKP2' HGM2 HKP7 HGM7 HLK hhs2
        obtain ⟨lfr, hlfr⟩ : ∃ lfr, l.fr = lfr := ⟨_, rfl⟩
        obtain ⟨lun, hlun⟩ : ∃ lun, l.un = lun := ⟨_, rfl⟩
        unfold RngL at hrg
        rw [hlfr] at HLK hrg hB7 HB7 e0 y0 x0 hw7
        rw [hlun] at HLK hrg hB7 HB7 y1 x1 hw7
        obtain ⟨hrg1, hrg2, hrg3⟩ := hrg
        clear hl hlr hrep hcs hx7 hB7 hK3 hlfr hlun hhk
        go_upto_region 11 with (fail)
        clear y0 y1 y2 y3 x0 x1 x2 x3 e0 hw7 hz15
        go_loopw [16, 17, 18] (fun s16 _ _ W => ItN br tb ls t p k lfr lun hs2 b0 B K3 w7 s16 W) (fun s16 _ _ _ => itM lun s16)
        case atStart => exact ⟨0, D2, by omega, by simp, by have h9 := HGM7.out; simpa [hitN] using h9, by have h9 := HKP7.out; simpa [hitN] using h9⟩
        case round =>
          obtain ⟨m, D3, hm, rfl, hgm, hkp⟩ := hrel
          rename World => wv
          have HGM3 := Lib.hid hgm
          have HKP3 := Lib.hid hkp
          obtain ⟨nn, hnn⟩ : ∃ nn, lfr + (m : Int) = nn := ⟨_, rfl⟩
          rw [hnn]
          have HNN := Lib.hid hnn
          have q1 := hkp.cell HKZ15.out (cell_of HB7.out (i := 1) rfl)
          have hkt := (HK3.out z12).2 (.inl HT6.out.2)
          have hkp11 := (HK3.out z11).2 (.inl HP6.out.2)
          have q2 := hkp.cell hkt (cell_of ((HX26.out z12 HT6.out.2).trans HT6.out.1) (i := 0) rfl)
          have q3 := hkp.cell hkt (cell_of ((HX26.out z12 HT6.out.2).trans HT6.out.1) (i := 1) rfl)
          have hml : (hitN br tb ls t p k lfr m).length ≤ m := hitN_len br tb ls t p k lfr m
          have hlen3 : (hs2 ++ hitN br tb ls t p k lfr m).length ≤ 16005000 := by rw [List.length_append]; omega
          have HST := Lib.hid (show hs2 ++ hitN br tb ls t p k lfr (m + 1) = (hs2 ++ hitN br tb ls t p k lfr m) ++ hitW br tb ls t p k nn by rw [hitN_succ, ← List.append_assoc, hnn])
          clear hgm hkp hnn hml
          by_cases hnu : nn < lun
          case neg =>
            have hmE : m = (lun - lfr).toNat := by have := HNN.out; omega
            subst hmE
            have HREL := Lib.hid (HLK.out D3 wv HGM3.out HKP3.out)
            go_wp2_with fail
            go_roundw
            case rel => exact HREL.out
            case measure => simp only [toM]; omega
          have hot := textB_ok HOK.out HT.out
          obtain ⟨hw1, hw2⟩ := hot.words
          have hwn : IntKind.i64.wrap (nn + 1) = nn + 1 := IntWalk.i64_in _ (by have := HNN.out; omega)
          have HV2 := Lib.hid (show ∀ j, K2 j → wv.heap[j]? = w6.heap[j]? from fun j hj => (HKP3.out.block j ((HK3.out j).2 (.inl hj))).trans (HX26.out j hj))
          have HSV := Lib.hid (Nat.le_trans HS67.out HKP3.out.size)
          have HWD := Lib.hid (gword_any K2 wv A5 A6 n5 n6 c5 c6 t nn (Lay.row_keep HTR5.out HSV.out fun j hj _ => HV2.out j hj) (Lay.row_keep HTR6.out HSV.out fun j hj _ => HV2.out j hj) (by have := hot.np; omega) (by have := hot.nn; omega) (by omega) (by omega))
          have HMS := Lib.hid (show ∀ D' W, GMap B b0 (hs2 ++ hitN br tb ls t p k lfr (m + 1)).length (hs2 ++ hitN br tb ls t p k lfr (m + 1)) D' W → Kpt b0 K3 (hs2 ++ hitN br tb ls t p k lfr (m + 1)) D' w7 W → ItN br tb ls t p k lfr lun hs2 b0 B K3 w7 (.int .i64 (nn + 1)) W from fun D' W g1 g2 => ⟨m + 1, D', by have := HNN.out; omega, by have := HNN.out; congr 1; simp only [Int.natCast_add]; omega, g1, g2⟩)
          rw [HST.out] at HMS
          clear hw1 hw2 hot hm
          cases ho : wordT t nn with
          | none =>
            have hW0 : hitW br tb ls t p k nn = [] := by unfold hitW; rw [ho]
            rw [hW0, List.append_nil] at HMS
            rw [ho] at HWD
            clear ho hW0
            have HWN := Lib.hid (show Calls Tryz.prog 32 #[.agg #[.slice A5 n5 c5, .slice A6 n6 c6], .int .i64 nn] wv (fun e w' => e = .returned (.tuple #[.agg #[.string ⟨#[]⟩, .string ⟨#[]⟩, .int .i64 0, .int .i64 0], .bool false]) ∧ Ext wv w') from HWD.out)
            go_wp2_with (first | (go_at_call 32; refine (HWN.out).mono ?_; rintro e w8 ⟨rfl, hx8⟩; have HX8 := Lib.hid hx8; clear hx8))
            go_roundw
            case rel => exact HMS.out D3 _ (HGM3.out.keep (HX8.out.alloc _).grown) (HKP3.out.extX (HX8.out.alloc _))
            case measure => simp only [itM]; omega
          | some x =>
            rw [ho] at HWD
            have HO := Lib.hid ho
            clear ho
            have HWS := Lib.hid (show Calls Tryz.prog 32 #[.agg #[.slice A5 n5 c5, .slice A6 n6 c6], .int .i64 nn] wv (fun e w' => e = .returned (.tuple #[.agg #[.string ⟨x.s.toArray⟩, .string ⟨x.key.toArray⟩, .int .i64 x.tb, .int .i64 x.nt], .bool true]) ∧ Ext wv w') from HWD.out)
            go_upto_region 14 with (first | (go_at_call 32; refine (HWS.out).mono ?_; rintro e w8 ⟨rfl, hx8⟩; have HX8 := Lib.hid hx8; clear hx8))
            obtain ⟨w9, hw9⟩ : ∃ w9, w8.alloc (.cells #[.string ⟨x.s.toArray⟩, .string ⟨x.key.toArray⟩, .int .i64 x.tb, .int .i64 x.nt] 60) = w9 := ⟨_, rfl⟩
            obtain ⟨z17, hz17⟩ : ∃ z17, w8.heap.size = z17 := ⟨_, rfl⟩
            have hx9 : Ext w8 w9 := by rw [← hw9]; exact (Ext.refl w8).alloc _
            have hB9 : w9.heap[z17]? = some (.cells #[.string ⟨x.s.toArray⟩, .string ⟨x.key.toArray⟩, .int .i64 x.tb, .int .i64 x.nt] 60 (0, 0)) := by rw [← hw9, ← hz17]; exact heap_alloc_new _ _
            rw [hw9, hz17]
            have HX9 := Lib.hid (HX8.out.trans hx9)
            have HB9 := Lib.hid hB9
            have HZ17 := Lib.hid (show wv.heap.size ≤ z17 by rw [← hz17]; exact HX8.out.lt)
            have g1 := cell_of hB9 (i := 1) rfl
            have g2 := cell_of hB9 (i := 2) rfl
            clear hx9 hB9 hw9 hz17 q1 q2 q3
            have HNO := Lib.hid (show hitW br tb ls t p k nn = [] → ∀ Y, Ext w9 Y → ItN br tb ls t p k lfr lun hs2 b0 B K3 w7 (.int .i64 (nn + 1)) Y from fun h0 Y hY => by
              have h9 := HMS.out
              rw [h0, List.append_nil] at h9
              exact h9 D3 Y (HGM3.out.keep (HX9.out.trans hY).grown) (HKP3.out.extX (HX9.out.trans hY)))
            have hWD : hitW br tb ls t p k nn = if x.key ≠ [] ∧ x.tb = tb ∧ seald ls p.ent p.ver nn = false then [(x.key, ⟨br, p.num, p.suf, (k : Int) + 1⟩)] else [] := by unfold hitW; rw [HO.out]
            by_cases hk0 : x.key = []
            · have h0 : hitW br tb ls t p k nn = [] := by rw [hWD, if_neg (by simp [hk0])]
              have HREL := Lib.hid (HNO.out h0 w9 (Ext.refl _))
              rw [hk0] at g1
              clear h0 hWD hk0
              go_wp2_with fail
              go_roundw
              case rel => exact HREL.out
              case measure => simp only [itM]; omega
            · have hkb : (x.key == []) = false := by simpa using hk0
              by_cases ht0 : x.tb = tb
              case neg =>
                have h0 : hitW br tb ls t p k nn = [] := by rw [hWD, if_neg (by simp [ht0])]
                have HREL := Lib.hid (HNO.out h0 w9 (Ext.refl _))
                have htb : (x.tb == tb) = false := by simpa using ht0
                clear h0 hWD hk0 ht0
                go_wp2_with fail
                go_roundw
                case rel => exact HREL.out
                case measure => simp only [itM]; omega
              have htb : (x.tb == tb) = true := by simpa using ht0
              have hP9 : w9.heap[z11]? = some (.cells #[.int .i64 p.num, .int .i64 p.suf, .int .i64 p.ent, .int .i64 p.ver, .slice A7 n7 c7, .slice A8 n8 c8] 84 (0, 0)) := (HX9.out.block _ (Nat.lt_of_lt_of_le (HKP3.out.lt z11 hkp11) HKP3.out.size)).trans ((HV2.out z11 HP6.out.2).trans HP6.out.1)
              have HP9 := Lib.hid hP9
              have g3 := cell_of hP9 (i := 2) rfl
              have g4 := cell_of hP9 (i := 3) rfl
              have HGR := Lib.hid (groups_any K2 w9 A2 n2 c2 ls p.ent p.ver nn (HSE.out w9 (Nat.le_trans HSV.out HX9.out.lt) fun j hj => (HX9.out.block j (by have := HKP3.out.lt j ((HK3.out j).2 (.inl hj)); have := HKP3.out.size; omega)).trans (HV2.out j hj)) hn2 hgr)
              have HHK := Lib.hid hkp11
              clear hP9
              cases hsl9 : seald ls p.ent p.ver nn with
              | true =>
                have h0 : hitW br tb ls t p k nn = [] := by rw [hWD, if_neg (by simp [hsl9])]
                have HNR := Lib.hid (HNO.out h0)
                rw [hsl9] at HGR
                clear h0 hWD hk0 ht0 hsl9
                go_wp2_with (first | (go_at_call 34; refine (HGR.out).mono ?_; rintro e w10 ⟨g, rfl, hg, hx10⟩; have HX10 := Lib.hid hx10; have hg0 : (g == 0) = false := beq_eq_false_iff_ne.2 (fun e9 => absurd (hg.1 e9) (by decide)); clear hg hx10))
                go_roundw
                case rel => exact HNR.out _ HX10.out
                case measure => simp only [itM]; omega
              | false =>
                have hW1 : hitW br tb ls t p k nn = [(x.key, ⟨br, p.num, p.suf, (k : Int) + 1⟩)] := by rw [hWD, if_pos ⟨hk0, ht0, hsl9⟩]
                rw [hW1] at HMS
                rw [hsl9] at HGR
                have hxk : x.key.length ≤ 1000 := hitW_key (textB_ok HOK.out HT.out) (x.key, ⟨br, p.num, p.suf, (k : Int) + 1⟩) (by rw [hW1]; exact .head _)
                obtain ⟨v, hlook, hvK, hvW, hpush⟩ := GMap.push2 HGM3.out (Nat.le_trans (by have := HBB.out; have := HXR6.out.lt; have := HSZ.out; omega) HSV.out) (k := x.key) (by unfold maxLen; omega) (by omega) (by omega)
                have HLOOK := Lib.hid hlook
                have HVK := Lib.hid hvK
                have HVW := Lib.hid hvW
                have HPUSH := Lib.hid hpush
                clear hlook hvK hvW hpush hW1 hWD hk0 ht0 hsl9 hxk
                go_upto_region 15 with (first | (go_at_call 34; refine (HGR.out).mono ?_; rintro e w10 ⟨g, rfl, hg, hx10⟩; have HX10 := Lib.hid hx10; obtain rfl : g = 0 := hg.2 rfl; clear hg hx10))
                have hX0 : Ext wv (w10.drew.alloc (.cells #[.int .i64 br, .int .i64 p.num, .int .i64 p.suf, .int .i64 ((k : Int) + 1)] 69)) := (HX9.out.trans HX10.out).drew.alloc _
                obtain ⟨A6', m6, c6', X1, hrun, hmap1, hk1, D', X2, hrun2, hp2⟩ := HPUSH.out _ hX0.grown _ (some ⟨w10.drew.heap.size, 0, none⟩) 1 1 [⟨br, p.num, p.suf, (k : Int) + 1⟩] (ct_new w10.drew ⟨br, p.num, p.suf, (k : Int) + 1⟩) (by simp) (by simp)
                have HREL := Lib.hid (HMS.out D' X2 (by have h9 := hp2.gm; simpa [Nat.add_assoc] using h9) ((HKP3.out.extX hX0).push HVK.out hp2))
                obtain ⟨X0, hX0e⟩ : ∃ X0, w10.drew.alloc (.cells #[.int .i64 br, .int .i64 p.num, .int .i64 p.suf, .int .i64 ((k : Int) + 1)] 69) = X0 := ⟨_, rfl⟩
                have hB10 := (HX10.out.block _ (lt_of_block HB9.out)).trans HB9.out
                have hP10 := (HX10.out.block _ (lt_of_block HP9.out)).trans HP9.out
                have hx1010 : Ext w10 X0 := by rw [← hX0e]; exact (Ext.refl w10).drew.alloc _
                have hB0 := (hx1010.block _ (lt_of_block hB10)).trans hB10
                have hP0 := (hx1010.block _ (lt_of_block hP10)).trans hP10
                rw [hX0e] at hX0 hrun hk1
                have RUN := Lib.hid (show (Builtin.append_ #[38, 38] 38 #[v, .slice (some ⟨w10.heap.size, 0, none⟩) 1 1]).run Tryz.prog X0 = .ok (.slice A6' m6 c6') X1 from hrun)
                have RUN2 := Lib.hid hrun2
                have HS := Lib.hid (show w10.drew.cell? ⟨z17, 1, none⟩ = some (.string ⟨x.key.toArray⟩) ∧ w10.drew.cell? ⟨z11, 0, none⟩ = some (.int .i64 p.num) ∧ w10.drew.cell? ⟨z11, 1, none⟩ = some (.int .i64 p.suf) ∧ (Instr.lookup 105 (.map (some b0)) (.string ⟨x.key.toArray⟩) false).run Tryz.prog w10.drew = .ok v w10.drew from ⟨cell_of (W := w10.drew) hB10 (i := 1) rfl, cell_of (W := w10.drew) hP10 (i := 0) rfl, cell_of (W := w10.drew) hP10 (i := 1) rfl, HLOOK.out _ (HGM3.out.own.kept (HX9.out.trans HX10.out).drew.grown (by simp))⟩)
                have HS0 := Lib.hid (show X0.cell? ⟨z17, 1, none⟩ = some (.string ⟨x.key.toArray⟩) ∧ X0.cell? ⟨z11, 0, none⟩ = some (.int .i64 p.num) ∧ X0.cell? ⟨z11, 1, none⟩ = some (.int .i64 p.suf) ∧ (Instr.lookup 105 (.map (some b0)) (.string ⟨x.key.toArray⟩) false).run Tryz.prog X0 = .ok v X0 from ⟨cell_of hB0 (i := 1) rfl, cell_of hP0 (i := 0) rfl, cell_of hP0 (i := 1) rfl, HLOOK.out _ (HGM3.out.own.kept hX0.grown (by simp))⟩)
                have hB1 : X1.heap[z17]? = _ := (hk1 z17 (lt_of_block hB0) fun e9 => by have := HVW.out z17 e9; have := HZ17.out; omega).trans hB0
                have hP1 : X1.heap[z11]? = _ := (hk1 z11 (lt_of_block hP0) fun e9 => HVK.out K3 HKP3.out.av z11 e9 HHK.out).trans hP0
                have HS1 := Lib.hid (show X1.cell? ⟨z17, 1, none⟩ = some (.string ⟨x.key.toArray⟩) ∧ X1.cell? ⟨z11, 0, none⟩ = some (.int .i64 p.num) ∧ X1.cell? ⟨z11, 1, none⟩ = some (.int .i64 p.suf) ∧ (Instr.lookup 105 (.map (some b0)) (.string ⟨x.key.toArray⟩) false).run Tryz.prog X1 = .ok v X1 from ⟨cell_of hB1 (i := 1) rfl, cell_of hP1 (i := 0) rfl, cell_of hP1 (i := 1) rfl, HLOOK.out _ hmap1⟩)
                clear hX0 hrun hmap1 hk1 hrun2 hp2 hB10 hP10 hx1010 hB0 hP0 hB1 hP1 g1 g2 g3 g4
                have hS0 : (fun X : World => X.cell? ⟨z17, 1, none⟩ = some (.string ⟨x.key.toArray⟩) ∧ X.cell? ⟨z11, 0, none⟩ = some (.int .i64 p.num) ∧ X.cell? ⟨z11, 1, none⟩ = some (.int .i64 p.suf) ∧ (Instr.lookup 105 (.map (some b0)) (.string ⟨x.key.toArray⟩) false).run Tryz.prog X = .ok v X) w10.drew := HS.out
                refine wp_region_E (fun X : World => X.cell? ⟨z17, 1, none⟩ = some (.string ⟨x.key.toArray⟩) ∧ X.cell? ⟨z11, 0, none⟩ = some (.int .i64 p.num) ∧ X.cell? ⟨z11, 1, none⟩ = some (.int .i64 p.suf) ∧ (Instr.lookup 105 (.map (some b0)) (.string ⟨x.key.toArray⟩) false).run Tryz.prog X = .ok v X) (fun _ => True) (fun i => i == 15) (by kernel_rfl) ?_
                refine wpE_takeS (i := 0) (d := some 86) (v := .map (some b0)) rfl rfl (by kernel_rfl) (by kernel_rfl) (by kernel_rfl) (by kernel_rfl) (fun _ _ _ h => h) (by rfl) ?hy1 hS0 trivial ?go1
                case hy1 =>
                  intro w9 hT9
                  clear hT9; go_simp
                (try simp only [Act.put, List.setIfInBounds_toArray, List.set_cons_zero, List.set_cons_succ])
                refine wpE_takeS (i := 1) (d := some 87) (v := .pointer (some ⟨z17, 1, none⟩)) rfl rfl (by kernel_rfl) (by kernel_rfl) (by kernel_rfl) (by kernel_rfl) (fun _ _ _ h => h) (by rfl) ?hy2 hS0 trivial ?go2
                case hy2 =>
                  intro w9 hT9
                  clear hT9; go_simp
                (try simp only [Act.put, List.setIfInBounds_toArray, List.set_cons_zero, List.set_cons_succ])
                refine wpE_takeS (i := 2) (d := some 88) (v := .string ⟨x.key.toArray⟩) rfl rfl (by kernel_rfl) (by kernel_rfl) (by kernel_rfl) (by kernel_rfl) (fun _ _ _ h => h) (by rfl) ?hy3 hS0 trivial ?go3
                case hy3 =>
                  intro w9 hT9
                  obtain ⟨s0, s1, s2, s3⟩ := hT9; go_simp
                (try simp only [Act.put, List.setIfInBounds_toArray, List.set_cons_zero, List.set_cons_succ])
                refine wpE_takeS (i := 3) (d := some 89) (v := .map (some b0)) rfl rfl (by kernel_rfl) (by kernel_rfl) (by kernel_rfl) (by kernel_rfl) (fun _ _ _ h => h) (by rfl) ?hy4 hS0 trivial ?go4
                case hy4 =>
                  intro w9 hT9
                  clear hT9; go_simp
                (try simp only [Act.put, List.setIfInBounds_toArray, List.set_cons_zero, List.set_cons_succ])
                refine wpE_takeS (i := 4) (d := some 90) (v := .pointer (some ⟨z17, 1, none⟩)) rfl rfl (by kernel_rfl) (by kernel_rfl) (by kernel_rfl) (by kernel_rfl) (fun _ _ _ h => h) (by rfl) ?hy5 hS0 trivial ?go5
                case hy5 =>
                  intro w9 hT9
                  clear hT9; go_simp
                (try simp only [Act.put, List.setIfInBounds_toArray, List.set_cons_zero, List.set_cons_succ])
                refine wpE_takeS (i := 5) (d := some 91) (v := .string ⟨x.key.toArray⟩) rfl rfl (by kernel_rfl) (by kernel_rfl) (by kernel_rfl) (by kernel_rfl) (fun _ _ _ h => h) (by rfl) ?hy6 hS0 trivial ?go6
                case hy6 =>
                  intro w9 hT9
                  obtain ⟨s0, s1, s2, s3⟩ := hT9; go_simp
                (try simp only [Act.put, List.setIfInBounds_toArray, List.set_cons_zero, List.set_cons_succ])
                refine wpE_takeS (i := 6) (d := some 92) (v := v) rfl rfl (by kernel_rfl) (by kernel_rfl) (by kernel_rfl) (by kernel_rfl) (fun _ _ _ h => h) (by rfl) ?hy7 hS0 trivial ?go7
                case hy7 =>
                  intro w9 hT9
                  obtain ⟨s0, s1, s2, s3⟩ := hT9; go_simp
                (try simp only [Act.put, List.setIfInBounds_toArray, List.set_cons_zero, List.set_cons_succ])
                refine wpE_takeS (i := 7) (d := some 93) (v := .int .i64 br) rfl rfl (by kernel_rfl) (by kernel_rfl) (by kernel_rfl) (by kernel_rfl) (fun _ _ _ h => h) (by rfl) ?hy8 hS0 trivial ?go8
                case hy8 =>
                  intro w9 hT9
                  clear hT9; go_simp
                (try simp only [Act.put, List.setIfInBounds_toArray, List.set_cons_zero, List.set_cons_succ])
                refine wpE_takeS (i := 8) (d := some 94) (v := .pointer (some ⟨z11, 0, none⟩)) rfl rfl (by kernel_rfl) (by kernel_rfl) (by kernel_rfl) (by kernel_rfl) (fun _ _ _ h => h) (by rfl) ?hy9 hS0 trivial ?go9
                case hy9 =>
                  intro w9 hT9
                  clear hT9; go_simp
                (try simp only [Act.put, List.setIfInBounds_toArray, List.set_cons_zero, List.set_cons_succ])
                refine wpE_takeS (i := 9) (d := some 95) (v := .agg #[.int .i64 p.num, .int .i64 p.suf]) rfl rfl (by kernel_rfl) (by kernel_rfl) (by kernel_rfl) (by kernel_rfl) (fun _ _ _ h => h) (by rfl) ?hy10 hS0 trivial ?go10
                case hy10 =>
                  intro w9 hT9
                  obtain ⟨s0, s1, s2, s3⟩ := hT9; go_simp
                (try simp only [Act.put, List.setIfInBounds_toArray, List.set_cons_zero, List.set_cons_succ])
                refine wpE_takeS (i := 10) (d := some 96) (v := .int .i64 (k : Int)) rfl rfl (by kernel_rfl) (by kernel_rfl) (by kernel_rfl) (by kernel_rfl) (fun _ _ _ h => h) (by rfl) ?hy11 hS0 trivial ?go11
                case hy11 =>
                  intro w9 hT9
                  clear hT9; go_simp
                (try simp only [Act.put, List.setIfInBounds_toArray, List.set_cons_zero, List.set_cons_succ])
                refine wpE_takeS (i := 11) (d := some 97) (v := .int .i64 ((k : Int) + 1)) rfl rfl (by kernel_rfl) (by kernel_rfl) (by kernel_rfl) (by kernel_rfl) (fun _ _ _ h => h) (by rfl) ?hy12 hS0 trivial ?go12
                case hy12 =>
                  intro w9 hT9
                  clear hT9; go_simp
                (try simp only [Act.put, List.setIfInBounds_toArray, List.set_cons_zero, List.set_cons_succ])
                refine wpE_takeS (i := 12) (d := some 98) (v := .agg #[.int .i64 br, .int .i64 p.num, .int .i64 p.suf, .int .i64 ((k : Int) + 1)]) rfl rfl (by kernel_rfl) (by kernel_rfl) (by kernel_rfl) (by kernel_rfl) (fun _ _ _ h => h) (by rfl) ?hy13 hS0 trivial ?go13
                case hy13 =>
                  intro w9 hT9
                  clear hT9; go_simp
                (try simp only [Act.put, List.setIfInBounds_toArray, List.set_cons_zero, List.set_cons_succ])
                refine wpE_all (rs := [13]) (by kernel_rfl) (by simp) ?_
                refine AllE.cons rfl (fun K hK => ?_) AllE.nil
                simp only [List.getElem_toArray, List.getElem_cons_succ, List.getElem_cons_zero]
                go_simp
                refine hK.out _ _ ⟨fun _ => HS0.out, trivial⟩ (fun _ => ?_)
                clear hK K
                have hS0 := HS0.out
                (try simp only [Act.put, List.setIfInBounds_toArray, List.set_cons_zero, List.set_cons_succ])
                refine wpE_all (rs := [14]) (by kernel_rfl) (by simp) ?_
                refine AllE.cons rfl (fun K hK => ?_) AllE.nil
                simp only [List.getElem_toArray, List.getElem_cons_succ, List.getElem_cons_zero]
                refine step_append_tm (s := .tmp 92) (x := .tmp 99) RUN.out rfl rfl rfl rfl rfl ?_
                refine hK.out _ _ ⟨fun _ => HS1.out, trivial⟩ (fun _ => ?_)
                clear hK K
                have hS0 := HS1.out
                (try simp only [Act.put, List.setIfInBounds_toArray, List.set_cons_zero, List.set_cons_succ])
                refine wpE_all (rs := [15]) (by kernel_rfl) (by simp) ?_
                refine AllE.cons rfl (fun K hK => ?_) AllE.nil
                simp only [List.getElem_toArray, List.getElem_cons_succ, List.getElem_cons_zero]
                refine step_mapU (m := .tmp 86) (k := .tmp 88) (x := .tmp 100) RUN2.out rfl rfl rfl rfl rfl ?_
                refine hK.out _ _ ⟨fun h => absurd h (by simp), trivial⟩ (fun _ => ?_)
                clear hK K
                (try simp only [Act.put])
                refine wpE_done (by kernel_rfl) ?_ _
                go_wp2_with fail
                go_roundw
                case rel => exact HREL.out
                case measure => simp only [itM]; omega
end Go.Proofs.YtdbnddmncbjobaaGreatDoor

/- The example of the chapter: a book in plain Lean; word, example: walked. -/
namespace Go.Proofs.YtdbnddmncbjobaaGreatDoor
open Go Go.RowKit
attribute [local go_sem] Oper.semAt_some

/-- A block of elements, as a row. -/
theorem row_block {β : Type} {k : Lay β} {W : World} {P : Nat → Prop} {g : Nat} {T : TypeId} {cur : Array Value} {ds : List (Cs k.sz)} {xs : List β} (hb : W.heap[g]? = some (.cells cur T (0, 0))) (hc : cur.toList = gcells ccf ds) (hl : ds.length = xs.length) (hP : P g)
    (hr : ∀ (i : Nat) (d : Cs k.sz) (x : β), ds[i]? = some d → xs[i]? = some x → k.rep W P x d.1) : k.row W P (some ⟨g, 0, none⟩) xs.length xs := by
  have hg := lt_of_block hb
  refine ⟨ds, rfl, hl, ⟨hl.symm, fun _ => ⟨g, 0, rfl, hg, fun i d hd j u hu => ?_⟩⟩, fun x hx => by injection hx with hx; subst hx; exact ⟨hP, hg⟩, hr⟩
  have hj : j < k.sz := by rw [← ccf_len d]; exact (List.getElem?_eq_some_iff.1 hu).1
  have h1 := gcells_at ccf_len ds i d hd j hj
  rw [hu, ← hc] at h1
  rw [Nat.zero_add]
  exact cell_of hb (by rw [← Array.getElem?_toList]; exact h1)
def wdC (x : Wd) : Cs kWd.sz := ⟨[.string ⟨x.s.toArray⟩, .string ⟨x.key.toArray⟩, .int .i64 x.tb, .int .i64 x.nt], rfl, fun u hu => by simp only [List.mem_cons, List.not_mem_nil, or_false] at hu; rcases hu with rfl | rfl | rfl | rfl <;> rfl⟩
theorem wd_block {W : World} {P : Nat → Prop} {g : Nat} {T : TypeId} {cur : Array Value} (xs : List Wd) (hb : W.heap[g]? = some (.cells cur T (0, 0))) (hc : cur.toList = gcells ccf (xs.map wdC)) (hP : P g) : kWd.row W P (some ⟨g, 0, none⟩) xs.length xs :=
  row_block hb hc (by simp) hP fun i d x hd hx => by
    rw [List.getElem?_map, hx] at hd
    obtain rfl := Option.some.inj hd
    exact kWd_rep.2 rfl
def slC (A : Option Addr) (n c : Nat) : Cs kWs.sz := ⟨[.slice A n c], rfl, fun u hu => by simp only [List.mem_singleton] at hu; subst hu; rfl⟩
/-- The words of the example. -/
def exSee : Wd := ⟨[115, 101, 101], [], 0, 0⟩
def exSm1 : Wd := ⟨[83, 109, 105, 116, 104], [115, 109, 105, 116, 104], 1, 1⟩
def exAnd : Wd := ⟨[97, 110, 100], [], 0, 0⟩
def exSm : Wd := ⟨[83, 109, 105, 116, 104], [115, 109, 105, 116, 104], 1, 0⟩
def exJo : Wd := ⟨[74, 111, 110, 101, 115], [106, 111, 110, 101, 115], 1, 0⟩
def exT : Tx := ⟨[[exSee, exSm1], [exAnd, exSm, exJo]], [[exSm]]⟩
def ex0 : Bk := ⟨500, 10, []⟩
def exB : Bk := addP ex0 0 0 exT
theorem exOk : ∀ w ∈ [exSee, exSm1, exAnd, exSm, exJo], OkW w := by unfold OkW; decide
theorem exT_ok : OkT exT := by
  refine ⟨⟨?_, ?_⟩, by decide, by decide, by decide, ?_, by decide⟩
  · decide
  · intro p hp w hw
    simp only [exT, List.mem_cons, List.not_mem_nil, or_false] at hp
    rcases hp with rfl | rfl <;> exact exOk w (by revert hw; simp only [List.mem_cons, List.not_mem_nil, or_false]; rintro (h | h) <;> simp [h])
  · intro p hp w hw
    simp only [exT, List.mem_cons, List.not_mem_nil, or_false] at hp
    subst hp
    simp only [List.mem_cons, List.not_mem_nil, or_false] at hw
    subst hw
    exact ⟨exOk exSm (by simp), rfl⟩
theorem ex0_ok : OkB ex0 0 1 := ⟨by decide, by decide, by decide, by decide, by decide, fun x hx => (by cases hx), fun x hx => (by cases hx), .nil⟩
theorem exB_ok : OkB exB 1 1 := ex0_ok.add (by omega) 0 exT_ok fun y hy => by cases hy
theorem ex_add : addE ex0 0 0 exT = 0 := by decide +kernel
def exPl (l : Int) : Ct := ⟨3, 1, 0, l⟩
def exWant : Tb := [([106, 111, 110, 101, 115], [exPl 2]), ([115, 109, 105, 116, 104], [exPl 1, exPl 2, exPl 3])]
def exSealed : Tb := [([106, 111, 110, 101, 115], [exPl 2]), ([115, 109, 105, 116, 104], [exPl 2, exPl 3])]
def exSeal : Sea := ⟨0, 0, 1, 2, 4⟩
theorem ex_items : itemsB 3 1 [] exB = exWant ∧ itemsB 3 1 [exSeal] exB = exSealed ∧ itemsB 3 0 [] exB = [] := by decide +kernel
theorem ex_find : findP exWant [106, 111, 110, 101, 115] = some [exPl 2] ∧ findP exWant [74, 111, 110, 101, 115] = none ∧ mrgP exWant exSealed = exWant := by decide +kernel
set_option maxRecDepth 100000 in
theorem word31_any (s key : List UInt8) (nt : Int) (w : World) (n : Nat) (hn : key.length = n) : Calls Tryz.prog 121 #[.string ⟨s.toArray⟩, .string ⟨key.toArray⟩, .int .i64 nt] w fun e w' => e = .returned (.agg #[.string ⟨s.toArray⟩, .string ⟨key.toArray⟩, .int .i64 (min (n : Int) 1), .int .i64 nt]) ∧ Ext w w' := by
  have hx : Ext w (w.alloc (.cells #[.string ⟨s.toArray⟩, .string ⟨key.toArray⟩, .int .i64 (min (n : Int) 1), .int .i64 nt] 60)) := (Ext.refl w).alloc _
  have HX := Lib.hid hx
  obtain ⟨m, hm⟩ : ∃ m, min (n : Int) 1 = m := ⟨_, rfl⟩
  have hsz : (⟨key.toArray⟩ : ByteArray).size = n := by rw [← hn]; simp [ByteArray.size]
  clear hx
  go_enter Tryz.func121, Tryz.ntmps121
  go_wp2_with fail
  obtain ⟨Y, hY⟩ : ∃ Y, w.alloc (.cells #[.string ⟨s.toArray⟩, .string ⟨key.toArray⟩, .int .i64 m, .int .i64 nt] 60) = Y := ⟨_, rfl⟩
  have hB : Y.heap[w.heap.size]? = some (.cells #[.string ⟨s.toArray⟩, .string ⟨key.toArray⟩, .int .i64 m, .int .i64 nt] 60 (0, 0)) := by rw [← hY]; exact heap_alloc_new _ _
  have h9 := HX.out
  rw [hm, hY] at h9
  rw [hY, hm]
  have q0 := cell_of hB (i := 0) rfl
  have q1 := cell_of hB (i := 1) rfl
  have q2 := cell_of hB (i := 2) rfl
  have q3 := cell_of hB (i := 3) rfl
  refine bodyPost_ret (v := .agg #[.string ⟨s.toArray⟩, .string ⟨key.toArray⟩, .int .i64 m, .int .i64 nt]) (by simp [results, Tryz.results121, go_sem, q0, q1, q2, q3]) rfl ?_
  exact ⟨rfl, h9⟩
theorem w31See (w : World) : Calls Tryz.prog 121 #[.string ⟨#[115, 101, 101]⟩, .string ⟨#[]⟩, .int .i64 0] w fun e w' => e = .returned (.agg #[.string ⟨#[115, 101, 101]⟩, .string ⟨#[]⟩, .int .i64 0, .int .i64 0]) ∧ Ext w w' := word31_any [115, 101, 101] [] 0 w 0 rfl
theorem w31Sm1 (w : World) : Calls Tryz.prog 121 #[.string ⟨#[83, 109, 105, 116, 104]⟩, .string ⟨#[115, 109, 105, 116, 104]⟩, .int .i64 1] w fun e w' => e = .returned (.agg #[.string ⟨#[83, 109, 105, 116, 104]⟩, .string ⟨#[115, 109, 105, 116, 104]⟩, .int .i64 1, .int .i64 1]) ∧ Ext w w' := word31_any [83, 109, 105, 116, 104] [115, 109, 105, 116, 104] 1 w 5 rfl
theorem w31And (w : World) : Calls Tryz.prog 121 #[.string ⟨#[97, 110, 100]⟩, .string ⟨#[]⟩, .int .i64 0] w fun e w' => e = .returned (.agg #[.string ⟨#[97, 110, 100]⟩, .string ⟨#[]⟩, .int .i64 0, .int .i64 0]) ∧ Ext w w' := word31_any [97, 110, 100] [] 0 w 0 rfl
theorem w31Sm (w : World) : Calls Tryz.prog 121 #[.string ⟨#[83, 109, 105, 116, 104]⟩, .string ⟨#[115, 109, 105, 116, 104]⟩, .int .i64 0] w fun e w' => e = .returned (.agg #[.string ⟨#[83, 109, 105, 116, 104]⟩, .string ⟨#[115, 109, 105, 116, 104]⟩, .int .i64 1, .int .i64 0]) ∧ Ext w w' := word31_any [83, 109, 105, 116, 104] [115, 109, 105, 116, 104] 0 w 5 rfl
theorem w31Jo (w : World) : Calls Tryz.prog 121 #[.string ⟨#[74, 111, 110, 101, 115]⟩, .string ⟨#[106, 111, 110, 101, 115]⟩, .int .i64 0] w fun e w' => e = .returned (.agg #[.string ⟨#[74, 111, 110, 101, 115]⟩, .string ⟨#[106, 111, 110, 101, 115]⟩, .int .i64 1, .int .i64 0]) ∧ Ext w w' := word31_any [74, 111, 110, 101, 115] [106, 111, 110, 101, 115] 0 w 5 rfl
set_option maxHeartbeats 4000000 in
set_option maxRecDepth 100000 in
theorem example31_any (w : World) (hL : EnvW w) : Calls Tryz.prog 63 #[] w fun e w' => ∃ A n c, e = .returned (.tuple #[.agg #[.int .i64 500, .int .i64 10, .slice A n c], .bool true]) ∧ n ≤ c ∧ kSe.row w' (fun _ => True) A n exB.secs ∧ Ext w w' := by
  obtain ⟨z0, hz0⟩ : ∃ z0, w.heap.size = z0 := ⟨_, rfl⟩
  obtain ⟨w0, hw0⟩ : ∃ w0, w.alloc (.cells #[.int .i64 0, .int .i64 0, .slice none 0 0] 27) = w0 := ⟨_, rfl⟩
  have hx0 : Ext w w0 := by rw [← hw0]; exact (Ext.refl w).alloc _
  have hB0 : w0.heap[z0]? = some (.cells #[.int .i64 0, .int .i64 0, .slice none 0 0] 27 (0, 0)) := by rw [← hw0, ← hz0]; exact heap_alloc_new _ _
  have HX0 := Lib.hid hx0
  have HB0 := Lib.hid hB0
  have HL := Lib.hid hL
  have HZ0 := Lib.hid hz0
  clear hx0 hB0 hL
  go_enter Tryz.func63, Tryz.ntmps63
  go_upto_region 1 with (fail)
  clear hw0 hz0
  go_wp2_with fail
  refine (w31See w0).mono ?_
  rintro e wa ⟨rfl, hxa⟩
  have HXA := Lib.hid hxa
  clear hxa
  go_wp2_with fail
  refine (w31Sm1 wa).mono ?_
  rintro e wb ⟨rfl, hxb⟩
  have HXB := Lib.hid (HXA.out.trans hxb)
  clear hxb
  obtain ⟨g1, hg1⟩ : ∃ g1, wb.heap.size = g1 := ⟨_, rfl⟩
  obtain ⟨w3, hw3⟩ : ∃ w3, wb.alloc (.cells #[.string ⟨#[115, 101, 101]⟩, .string ⟨#[]⟩, .int .i64 0, .int .i64 0, .string ⟨#[83, 109, 105, 116, 104]⟩, .string ⟨#[115, 109, 105, 116, 104]⟩, .int .i64 1, .int .i64 1] 60) = w3 := ⟨_, rfl⟩
  have hxw3 : Ext wb w3 := by rw [← hw3]; exact (Ext.refl wb).alloc _
  have hbw3 : w3.heap[g1]? = some (.cells #[.string ⟨#[115, 101, 101]⟩, .string ⟨#[]⟩, .int .i64 0, .int .i64 0, .string ⟨#[83, 109, 105, 116, 104]⟩, .string ⟨#[115, 109, 105, 116, 104]⟩, .int .i64 1, .int .i64 1] 60 (0, 0)) := by rw [← hw3, ← hg1]; exact heap_alloc_new _ _
  have HX3 := Lib.hid (HXB.out.trans hxw3)
  have HG1 := Lib.hid hbw3
  clear hxw3 hbw3
  go_wp2_with fail
  refine (w31And w3).mono ?_
  rintro e wc ⟨rfl, hxc⟩
  clear hg1 hw3
  go_wp2_with fail
  refine (w31Sm wc).mono ?_
  rintro e wd ⟨rfl, hxd⟩
  go_wp2_with fail
  refine (w31Jo wd).mono ?_
  rintro e we ⟨rfl, hxe⟩
  have HX3E := Lib.hid (hxc.trans (hxd.trans hxe))
  clear hxc hxd hxe
  obtain ⟨g2, hg2⟩ : ∃ g2, we.heap.size = g2 := ⟨_, rfl⟩
  obtain ⟨w4, hw4⟩ : ∃ w4, we.alloc (.cells #[.string ⟨#[97, 110, 100]⟩, .string ⟨#[]⟩, .int .i64 0, .int .i64 0, .string ⟨#[83, 109, 105, 116, 104]⟩, .string ⟨#[115, 109, 105, 116, 104]⟩, .int .i64 1, .int .i64 0, .string ⟨#[74, 111, 110, 101, 115]⟩, .string ⟨#[106, 111, 110, 101, 115]⟩, .int .i64 1, .int .i64 0] 60) = w4 := ⟨_, rfl⟩
  have hxw4 : Ext we w4 := by rw [← hw4]; exact (Ext.refl we).alloc _
  have hbw4 : w4.heap[g2]? = some (.cells #[.string ⟨#[97, 110, 100]⟩, .string ⟨#[]⟩, .int .i64 0, .int .i64 0, .string ⟨#[83, 109, 105, 116, 104]⟩, .string ⟨#[115, 109, 105, 116, 104]⟩, .int .i64 1, .int .i64 0, .string ⟨#[74, 111, 110, 101, 115]⟩, .string ⟨#[106, 111, 110, 101, 115]⟩, .int .i64 1, .int .i64 0] 60 (0, 0)) := by rw [← hw4, ← hg2]; exact heap_alloc_new _ _
  obtain ⟨g3, hg3⟩ : ∃ g3, w4.heap.size = g3 := ⟨_, rfl⟩
  obtain ⟨w5, hw5⟩ : ∃ w5, w4.alloc (.cells #[.slice (some ⟨g1, 0, none⟩) 2 2, .slice (some ⟨g2, 0, none⟩) 3 3] 54) = w5 := ⟨_, rfl⟩
  have hxw5 : Ext w4 w5 := by rw [← hw5]; exact (Ext.refl w4).alloc _
  have hbw5 : w5.heap[g3]? = some (.cells #[.slice (some ⟨g1, 0, none⟩) 2 2, .slice (some ⟨g2, 0, none⟩) 3 3] 54 (0, 0)) := by rw [← hw5, ← hg3]; exact heap_alloc_new _ _
  have HX35 := Lib.hid (HX3E.out.trans (hxw4.trans hxw5))
  have HG2 := Lib.hid ((hxw5.block _ (lt_of_block hbw4)).trans hbw4)
  have HG3 := Lib.hid hbw5
  clear hxw4 hxw5 hbw4 hbw5
  go_wp2_with fail
  refine (w31Sm w5).mono ?_
  rintro e wf ⟨rfl, hxf⟩
  have HX5F := Lib.hid hxf
  clear hxf hg2 hw4 hg3 hw5
  obtain ⟨g4, hg4⟩ : ∃ g4, wf.heap.size = g4 := ⟨_, rfl⟩
  obtain ⟨w6, hw6⟩ : ∃ w6, wf.alloc (.cells #[.string ⟨#[83, 109, 105, 116, 104]⟩, .string ⟨#[115, 109, 105, 116, 104]⟩, .int .i64 1, .int .i64 0] 60) = w6 := ⟨_, rfl⟩
  have hxw6 : Ext wf w6 := by rw [← hw6]; exact (Ext.refl wf).alloc _
  have hbw6 : w6.heap[g4]? = some (.cells #[.string ⟨#[83, 109, 105, 116, 104]⟩, .string ⟨#[115, 109, 105, 116, 104]⟩, .int .i64 1, .int .i64 0] 60 (0, 0)) := by rw [← hw6, ← hg4]; exact heap_alloc_new _ _
  obtain ⟨g5, hg5⟩ : ∃ g5, w6.heap.size = g5 := ⟨_, rfl⟩
  obtain ⟨w7, hw7⟩ : ∃ w7, w6.alloc (.cells #[.slice (some ⟨g4, 0, none⟩) 1 1] 54) = w7 := ⟨_, rfl⟩
  have hxw7 : Ext w6 w7 := by rw [← hw7]; exact (Ext.refl w6).alloc _
  have hbw7 : w7.heap[g5]? = some (.cells #[.slice (some ⟨g4, 0, none⟩) 1 1] 54 (0, 0)) := by rw [← hw7, ← hg5]; exact heap_alloc_new _ _
  obtain ⟨z2, hz2⟩ : ∃ z2, w7.heap.size = z2 := ⟨_, rfl⟩
  obtain ⟨w8, hw8⟩ : ∃ w8, w7.alloc (.cells #[.slice (some ⟨g3, 0, none⟩) 2 2, .slice (some ⟨g5, 0, none⟩) 1 1] 53) = w8 := ⟨_, rfl⟩
  have hxw8 : Ext w7 w8 := by rw [← hw8]; exact (Ext.refl w7).alloc _
  have hbw8 : w8.heap[z2]? = some (.cells #[.slice (some ⟨g3, 0, none⟩) 2 2, .slice (some ⟨g5, 0, none⟩) 1 1] 53 (0, 0)) := by rw [← hw8, ← hz2]; exact heap_alloc_new _ _
  have hx58 : Ext w5 w8 := HX5F.out.trans (hxw6.trans (hxw7.trans hxw8))
  have h1 := ((HX35.out.trans hx58).block _ (lt_of_block HG1.out)).trans HG1.out
  have h2 := (hx58.block _ (lt_of_block HG2.out)).trans HG2.out
  have h3 := (hx58.block _ (lt_of_block HG3.out)).trans HG3.out
  have h4 := ((hxw7.trans hxw8).block _ (lt_of_block hbw6)).trans hbw6
  have h5 := (hxw8.block _ (lt_of_block hbw7)).trans hbw7
  have r1 : kWd.row w8 (fun _ => True) (some ⟨g1, 0, none⟩) 2 [exSee, exSm1] := wd_block (W := w8) [exSee, exSm1] h1 rfl trivial
  have r2 : kWd.row w8 (fun _ => True) (some ⟨g2, 0, none⟩) 3 [exAnd, exSm, exJo] := wd_block (W := w8) [exAnd, exSm, exJo] h2 rfl trivial
  have r4 : kWd.row w8 (fun _ => True) (some ⟨g4, 0, none⟩) 1 [exSm] := wd_block (W := w8) [exSm] h4 rfl trivial
  have r3 : kWs.row w8 (fun _ => True) (some ⟨g3, 0, none⟩) 2 exT.paras := row_block (k := kWs) (ds := [slC (some ⟨g1, 0, none⟩) 2 2, slC (some ⟨g2, 0, none⟩) 3 3]) (xs := exT.paras) h3 rfl rfl trivial fun i d x hd hx => by
    match i with
    | 0 =>
      simp only [List.getElem?_cons_zero, Option.some.injEq, exT] at hd hx
      subst hd hx
      exact kWs_rep.2 ⟨_, 2, rfl, Nat.le_refl _, r1⟩
    | 1 =>
      simp only [List.getElem?_cons_succ, List.getElem?_cons_zero, Option.some.injEq, exT] at hd hx
      subst hd hx
      exact kWs_rep.2 ⟨_, 3, rfl, Nat.le_refl _, r2⟩
    | i + 2 => simp at hd
  have r5 : kWs.row w8 (fun _ => True) (some ⟨g5, 0, none⟩) 1 exT.notes := row_block (k := kWs) (ds := [slC (some ⟨g4, 0, none⟩) 1 1]) (xs := exT.notes) h5 rfl rfl trivial fun i d x hd hx => by
    match i with
    | 0 =>
      simp only [List.getElem?_cons_zero, Option.some.injEq, exT] at hd hx
      subst hd hx
      exact kWs_rep.2 ⟨_, 1, rfl, Nat.le_refl _, r4⟩
    | i + 1 => simp at hd
  have HX08 := Lib.hid ((HX3.out.trans HX35.out).trans hx58)
  have HADD := Lib.hid (add_any (fun _ => True) (fun _ => True) w8 ex0 0 0 exT none (some ⟨g3, 0, none⟩) (some ⟨g5, 0, none⟩) 0 0 2 2 1 1 (ex0_ok.bkI (by omega) (by omega) (by omega)) (by decide) (fun _ => exB_ok.bkI (by omega) (by omega) (by omega)) exT_ok (Lay.row_nil _ _ _) r3 r5 (HL.out.ext (HX0.out.trans HX08.out)))
  rw [ex_add] at HADD
  have e0 := cell_of hbw8 (i := 0) rfl
  have e1 := cell_of hbw8 (i := 1) rfl
  clear hx58 h1 h2 h3 h4 h5 r1 r2 r3 r4 r5 hxw6 hxw7 hxw8 hbw6 hbw7 hbw8
  have HAD := Lib.hid (show Calls Tryz.prog 37 #[.agg #[.int .i64 500, .int .i64 10, .slice none 0 0], .int .i64 0, .int .i64 0, .agg #[.slice (some ⟨g3, 0, none⟩) 2 2, .slice (some ⟨g5, 0, none⟩) 1 1]] w8 (OpPost w8 0 500 10 exB.secs) from HADD.out)
  clear HADD
  go_upto_region 3 with (first | (go_at_call 37; refine (HAD.out).mono ?_; rintro e wg ⟨hxg, hres⟩; rcases hres with ⟨hne, _⟩ | ⟨_, A9, n9, c9, rfl, hnc9, hr9⟩; exact absurd rfl hne; have HXG := Lib.hid hxg; have HR9 := Lib.hid hr9; clear hxg hr9))
  obtain ⟨z3, hz3⟩ : ∃ z3, wg.heap.size = z3 := ⟨_, rfl⟩
  obtain ⟨w9, hw9⟩ : ∃ w9, wg.alloc (.cells #[.int .i64 500, .int .i64 10, .slice A9 n9 c9] 27) = w9 := ⟨_, rfl⟩
  have hx9 : Ext wg w9 := by rw [← hw9]; exact (Ext.refl wg).alloc _
  have hb9 : w9.heap[z3]? = some (.cells #[.int .i64 500, .int .i64 10, .slice A9 n9 c9] 27 (0, 0)) := by rw [← hw9, ← hz3]; exact heap_alloc_new _ _
  rw [hw9, hz3]
  have hx09 := HX08.out.trans (HXG.out.trans hx9)
  have hB09 := (hx09.block _ (lt_of_block HB0.out)).trans HB0.out
  have HX09 := Lib.hid (HX0.out.trans hx09)
  have HR10 := Lib.hid (Lay.row_ext HR9.out hx9)
  have d0 := cell_of hb9 (i := 0) rfl
  have d1 := cell_of hb9 (i := 1) rfl
  have d2 := cell_of hb9 (i := 2) rfl
  have k0 := cell_of hB09 (i := 0) rfl
  have k1 := cell_of hB09 (i := 1) rfl
  have k2 := cell_of hB09 (i := 2) rfl
  have f0 := frozen_of hB09 0
  have f1 := frozen_of hB09 1
  have f2 := frozen_of hB09 2
  have HB09 := Lib.hid hB09
  clear hx9 hb9 hx09 hB09 hw9 hz3 e0 e1 hg4 hw6 hg5 hw7 hz2 hw8
  go_wp2_with fail
  obtain ⟨Y, hY⟩ : ∃ Y, ((w9.setCell ⟨z0, 0, none⟩ (.int .i64 500)).setCell ⟨z0, 1, none⟩ (.int .i64 10)).setCell ⟨z0, 2, none⟩ (.slice A9 n9 c9) = Y := ⟨_, rfl⟩
  have hb : (((w9.setCell ⟨z0, 0, none⟩ (.int .i64 500)).setCell ⟨z0, 1, none⟩ (.int .i64 10)).setCell ⟨z0, 2, none⟩ (.slice A9 n9 c9)).heap[z0]? = some (.cells #[.int .i64 500, .int .i64 10, .slice A9 n9 c9] 27 (0, 0)) := heap_setCell_same _ z0 2 _ 27 _ (heap_setCell_same _ z0 1 _ 27 _ (heap_setCell_same _ z0 0 _ 27 _ HB09.out))
  have hz : w.heap.size ≤ z0 := by rw [HZ0.out]; exact Nat.le_refl _
  have hxY : Ext w (((w9.setCell ⟨z0, 0, none⟩ (.int .i64 500)).setCell ⟨z0, 1, none⟩ (.int .i64 10)).setCell ⟨z0, 2, none⟩ (.slice A9 n9 c9)) := ((HX09.out.setCell (p := ⟨z0, 0, none⟩) hz _).setCell (p := ⟨z0, 1, none⟩) hz _).setCell (p := ⟨z0, 2, none⟩) hz _
  have hrY : kSe.row (((w9.setCell ⟨z0, 0, none⟩ (.int .i64 500)).setCell ⟨z0, 1, none⟩ (.int .i64 10)).setCell ⟨z0, 2, none⟩ (.slice A9 n9 c9)) (fun _ => True) A9 n9 exB.secs := Lay.row_mono (Lay.row_keep HR10.out (by simp) fun j hj _ => by
    have hne : j ≠ z0 := by have := HX08.out.lt; have := lt_of_block HB0.out; omega
    rw [heap_setCell_other _ ⟨z0, 2, none⟩ j _ hne, heap_setCell_other _ ⟨z0, 1, none⟩ j _ hne, heap_setCell_other _ ⟨z0, 0, none⟩ j _ hne]) fun _ _ _ => trivial
  rw [hY] at hb hxY hrY ⊢
  have q0 := cell_of hb (i := 0) rfl
  have q1 := cell_of hb (i := 1) rfl
  have q2 := cell_of hb (i := 2) rfl
  refine bodyPost_ret (v := .tuple #[.agg #[.int .i64 500, .int .i64 10, .slice A9 n9 c9], .bool true]) (by simp [results, Tryz.results63, go_sem, q0, q1, q2]) rfl ?_
  exact ⟨A9, n9, c9, rfl, hnc9, hrY, hxY⟩
end Go.Proofs.YtdbnddmncbjobaaGreatDoor

/- The examples of the chapter hold: walked. -/
namespace Go.Proofs.YtdbnddmncbjobaaGreatDoor
open Go Go.RowKit
attribute [local go_sem] Oper.semAt_some

set_option maxRecDepth 100000 in
theorem at31_any (l : Int) (w : World) : Calls Tryz.prog 64 #[.int .i64 l] w fun e w' => e = .returned (.agg #[.int .i64 3, .int .i64 1, .int .i64 0, .int .i64 l]) ∧ Ext w w' := by
  have hx : Ext w (w.alloc (.cells #[.int .i64 3, .int .i64 1, .int .i64 0, .int .i64 l] 69)) := (Ext.refl w).alloc _
  have HX := Lib.hid hx
  clear hx
  go_enter Tryz.func64, Tryz.ntmps64
  go_wp2_with fail
  obtain ⟨Y, hY⟩ : ∃ Y, w.alloc (.cells #[.int .i64 3, .int .i64 1, .int .i64 0, .int .i64 l] 69) = Y := ⟨_, rfl⟩
  have hB : Y.heap[w.heap.size]? = some (.cells #[.int .i64 3, .int .i64 1, .int .i64 0, .int .i64 l] 69 (0, 0)) := by rw [← hY]; exact heap_alloc_new _ _
  have h9 := HX.out
  rw [hY] at h9
  rw [hY]
  have q0 := cell_of hB (i := 0) rfl
  have q1 := cell_of hB (i := 1) rfl
  have q2 := cell_of hB (i := 2) rfl
  have q3 := cell_of hB (i := 3) rfl
  refine bodyPost_ret (v := .agg #[.int .i64 3, .int .i64 1, .int .i64 0, .int .i64 l]) (by simp [results, Tryz.results64, go_sem, q0, q1, q2, q3]) rfl ?_
  exact ⟨rfl, h9⟩
theorem ct_block {W : World} {P : Nat → Prop} {g : Nat} {T : TypeId} {cur : Array Value} (xs : List Ct) (hb : W.heap[g]? = some (.cells cur T (0, 0))) (hc : cur.toList = gcells ccf (xs.map ctC)) (hP : P g) : kCt.row W P (some ⟨g, 0, none⟩) xs.length xs :=
  row_block hb hc (by simp) hP fun i d x hd hx => by
    rw [List.getElem?_map, hx] at hd
    obtain rfl := Option.some.inj hd
    exact kCt_rep.2 rfl
def itC (x : ItV) : Cs kIt.sz := ⟨itCs x, rfl, itCs_one x⟩
theorem it2_block {W : World} {g : Nat} {T : TypeId} {k1 k2 : List UInt8} {A1 A2 : Option Addr} {n1 n2 : Nat} {l1 l2 : List Ct} (hb : W.heap[g]? = some (.cells #[.string ⟨k1.toArray⟩, .slice A1 n1 n1, .string ⟨k2.toArray⟩, .slice A2 n2 n2] T (0, 0))) (r1 : kCt.row W (fun _ => True) A1 n1 l1) (r2 : kCt.row W (fun _ => True) A2 n2 l2) : kIt.row W (fun _ => True) (some ⟨g, 0, none⟩) 2 [(k1, l1), (k2, l2)] :=
  row_block (k := kIt) (ds := [itC (k1, A1, n1, n1), itC (k2, A2, n2, n2)]) (xs := [(k1, l1), (k2, l2)]) hb rfl rfl trivial fun i d x hd hx => by
    match i with
    | 0 =>
      simp only [List.getElem?_cons_zero, Option.some.injEq] at hd hx
      subst hd hx
      exact kIt_rep.2 ⟨A1, n1, n1, rfl, Nat.le_refl _, r1⟩
    | 1 =>
      simp only [List.getElem?_cons_succ, List.getElem?_cons_zero, Option.some.injEq] at hd hx
      subst hd hx
      exact kIt_rep.2 ⟨A2, n2, n2, rfl, Nat.le_refl _, r2⟩
    | i + 2 => simp at hd
def seaC (x : Sea) : Cs kSea.sz := ⟨seaCs x, rfl, fun u hu => by simp only [seaCs, List.mem_cons, List.not_mem_nil, or_false] at hu; rcases hu with rfl | rfl | rfl | rfl | rfl <;> rfl⟩
theorem seaC_row {W : World} {g : Nat} (hb : W.heap[g]? = some (.cells #[.int .i64 0, .int .i64 0, .int .i64 1, .int .i64 2, .int .i64 4] 48 (0, 0))) : kSea.row W (fun _ => True) (some ⟨g, 0, none⟩) 1 [exSeal] :=
  row_block (k := kSea) (ds := [seaC exSeal]) (xs := [exSeal]) hb rfl rfl trivial fun i d x hd hx => by
    match i with
    | 0 =>
      simp only [List.getElem?_cons_zero, Option.some.injEq] at hd hx
      subst hd hx
      rfl
    | i + 1 => simp at hd
theorem ex_len : (hits 3 1 [] exB).length ≤ 10 ∧ (hits 3 1 [exSeal] exB).length ≤ 10 ∧ (hits 3 0 [] exB).length ≤ 10 := by decide +kernel
/-- Items at the example. -/
theorem ex_run (w : World) (hL : EnvW w) (A : Option Addr) (n c : Nat) (hr : kSe.row w (fun _ => True) A n exB.secs) (tb : Int) (ls : List Sea) (A2 : Option Addr) (n2 c2 : Nat) (hsl : kSea.row w (fun _ => True) A2 n2 ls) (hgr : ∀ s ∈ ls, 0 ≤ s.gr ∧ s.gr ≤ 15) (hn2 : n2 ≤ 10) (T : Tb) (hT : itemsB 3 tb ls exB = T) (hl : (hits 3 tb ls exB).length ≤ 10) :
    Calls Tryz.prog 19 #[.agg #[.int .i64 500, .int .i64 10, .slice A n c], .int .i64 3, .int .i64 tb, .slice A2 n2 c2] w fun e w' => ∃ A1 n1 c1, e = .returned (.slice A1 n1 c1) ∧ TbV w' A1 n1 c1 T 10 ∧ Ext w w' := by
  refine (iitems_any (fun _ => True) (fun _ => True) w exB 1 1 3 tb ls A A2 n c n2 c2 exB_ok (by omega) (by omega) (by omega) hr hsl (by omega) hgr hL).mono ?_
  rintro e w' ⟨A1, n1, c1, rfl, h1, h2⟩
  refine ⟨A1, n1, c1, rfl, ?_, h2⟩
  rw [← hT]
  exact TbV.mono h1 hl
set_option maxHeartbeats 8000000 in
set_option maxRecDepth 100000 in
theorem lives31_any (w : World) (hL : EnvW w) : Calls Tryz.prog 21 #[] w fun e w' => e = .returned (.bool true) ∧ Ext w w' := by
  have HL := Lib.hid hL
  have HEX := Lib.hid (example31_any w hL)
  clear hL
  go_enter Tryz.func21, Tryz.ntmps21
  go_wp2_with fail
  refine (HEX.out).mono ?_
  rintro e wa ⟨A, n, c, rfl, hnc, hr, hxa⟩
  clear HEX
  obtain ⟨z1, hz1⟩ : ∃ z1, wa.heap.size = z1 := ⟨_, rfl⟩
  obtain ⟨w1, hw1⟩ : ∃ w1, wa.alloc (.cells #[.int .i64 500, .int .i64 10, .slice A n c] 27) = w1 := ⟨_, rfl⟩
  have hxw1 : Ext wa w1 := by rw [← hw1]; exact (Ext.refl wa).alloc _
  have hbw1 : w1.heap[z1]? = some (.cells #[.int .i64 500, .int .i64 10, .slice A n c] 27 (0, 0)) := by rw [← hw1, ← hz1]; exact heap_alloc_new _ _
  have HX1 := Lib.hid (hxa.trans hxw1)
  have HB1 := Lib.hid hbw1
  have HR1 := Lib.hid (Lay.row_ext hr hxw1)
  have HZC := Lib.hid (fun X (hX : Ext w1 X) => (show X.cell? ⟨z1, 0, none⟩ = some (.int .i64 500) ∧ X.cell? ⟨z1, 1, none⟩ = some (.int .i64 10) ∧ X.cell? ⟨z1, 2, none⟩ = some (.slice A n c) from
    have h9 := (hX.block _ (lt_of_block hbw1)).trans hbw1
    ⟨cell_of h9 (i := 0) rfl, cell_of h9 (i := 1) rfl, cell_of h9 (i := 2) rfl⟩))
  have HRUN := Lib.hid (fun X (hX : Ext w1 X) => ex_run X (HL.out.ext (HX1.out.trans hX)) A n c (Lay.row_ext HR1.out hX))
  obtain ⟨d0, d1, d2⟩ := HZC.out w1 (Ext.refl _)
  clear hxa hxw1 hbw1 hr
  go_wp2_with fail
  refine (HRUN.out w1 (Ext.refl _) 1 [] none 0 0 (Lay.row_nil _ _ _) (fun s hs => by cases hs) (by omega) exWant ex_items.1 ex_len.1).mono ?_
  rintro e w2 ⟨A1, n1, c1, rfl, hT1, hx2⟩
  have HT1 := Lib.hid hT1
  have HX2 := Lib.hid hx2
  clear hT1 hx2 d0 d1 d2 hz1 hw1
  obtain ⟨d0, d1, d2⟩ := HZC.out w2 HX2.out
  obtain ⟨g1, hg1⟩ : ∃ g1, w2.heap.size = g1 := ⟨_, rfl⟩
  obtain ⟨w3, hw3⟩ : ∃ w3, w2.alloc (.cells #[.int .i64 0, .int .i64 0, .int .i64 1, .int .i64 2, .int .i64 4] 48) = w3 := ⟨_, rfl⟩
  have hxw3 : Ext w2 w3 := by rw [← hw3]; exact (Ext.refl w2).alloc _
  have hbw3 : w3.heap[g1]? = some (.cells #[.int .i64 0, .int .i64 0, .int .i64 1, .int .i64 2, .int .i64 4] 48 (0, 0)) := by rw [← hw3, ← hg1]; exact heap_alloc_new _ _
  have HX3 := Lib.hid (HX2.out.trans hxw3)
  have HS3 := Lib.hid (seaC_row hbw3)
  have HXW3 := Lib.hid hxw3
  clear hxw3 hbw3
  go_wp2_with fail
  refine (HRUN.out w3 HX3.out 1 [exSeal] (some ⟨g1, 0, none⟩) 1 1 HS3.out (fun s hs => by simp only [List.mem_singleton] at hs; subst hs; decide) (by omega) exSealed ex_items.2.1 ex_len.2.1).mono ?_
  rintro e w4 ⟨A2, n2, c2, rfl, hT2, hx4⟩
  have HT2 := Lib.hid hT2
  have HX24 := Lib.hid (HXW3.out.trans hx4)
  clear hT2 hx4 d0 d1 d2 hg1 hw3
  go_wp2_with fail
  refine (ifind_any w4 exWant [106, 111, 110, 101, 115] A1 n1 c1 10 (HT1.out.ext HX24.out) (by omega)).mono ?_
  rintro e w5 ⟨A3, n3, c3, rfl, hnc3, hr3, hx5⟩
  rw [show findP exWant [106, 111, 110, 101, 115] = some [exPl 2] from ex_find.1]
  rw [show plc exWant [106, 111, 110, 101, 115] = [exPl 2] by unfold plc; rw [ex_find.1]; rfl] at hr3
  have HR3 := Lib.hid hr3
  have HX45 := Lib.hid hx5
  clear hr3 hx5
  simp only [Option.isSome_some]
  go_wp2_with fail
  refine (ifind_any w5 exWant [74, 111, 110, 101, 115] A1 n1 c1 10 (HT1.out.ext (HX24.out.trans HX45.out)) (by omega)).mono ?_
  rintro e w6 ⟨A4, n4, c4, rfl, hnc4, hr4, hx6⟩
  rw [show findP exWant [74, 111, 110, 101, 115] = none from ex_find.2.1]
  have HX56 := Lib.hid hx6
  clear hr4 hx6 hnc4
  simp only [Option.isSome_none]
  go_wp2_with fail
  refine (at31_any 2 w6).mono ?_
  rintro e wb ⟨rfl, hxb⟩
  obtain ⟨g2, hg2⟩ : ∃ g2, wb.heap.size = g2 := ⟨_, rfl⟩
  obtain ⟨w7, hw7⟩ : ∃ w7, wb.alloc (.cells #[.int .i64 3, .int .i64 1, .int .i64 0, .int .i64 2] 69) = w7 := ⟨_, rfl⟩
  have hxw7 : Ext wb w7 := by rw [← hw7]; exact (Ext.refl wb).alloc _
  have hbw7 : w7.heap[g2]? = some (.cells #[.int .i64 3, .int .i64 1, .int .i64 0, .int .i64 2] 69 (0, 0)) := by rw [← hw7, ← hg2]; exact heap_alloc_new _ _
  have HX67 := Lib.hid (hxb.trans hxw7)
  have HG2 := Lib.hid hbw7
  clear hxb hxw7 hbw7
  go_wp2_with fail
  refine (at31_any 1 w7).mono ?_
  rintro e wc ⟨rfl, hxc⟩
  clear hg2 hw7
  go_wp2_with fail
  refine (at31_any 2 wc).mono ?_
  rintro e wd ⟨rfl, hxd⟩
  go_wp2_with fail
  refine (at31_any 3 wd).mono ?_
  rintro e we ⟨rfl, hxe⟩
  obtain ⟨g3, hg3⟩ : ∃ g3, we.heap.size = g3 := ⟨_, rfl⟩
  obtain ⟨w8, hw8⟩ : ∃ w8, we.alloc (.cells #[.int .i64 3, .int .i64 1, .int .i64 0, .int .i64 1, .int .i64 3, .int .i64 1, .int .i64 0, .int .i64 2, .int .i64 3, .int .i64 1, .int .i64 0, .int .i64 3] 69) = w8 := ⟨_, rfl⟩
  have hxw8 : Ext we w8 := by rw [← hw8]; exact (Ext.refl we).alloc _
  have hbw8 : w8.heap[g3]? = some (.cells #[.int .i64 3, .int .i64 1, .int .i64 0, .int .i64 1, .int .i64 3, .int .i64 1, .int .i64 0, .int .i64 2, .int .i64 3, .int .i64 1, .int .i64 0, .int .i64 3] 69 (0, 0)) := by rw [← hw8, ← hg3]; exact heap_alloc_new _ _
  obtain ⟨g4, hg4⟩ : ∃ g4, w8.heap.size = g4 := ⟨_, rfl⟩
  obtain ⟨w9, hw9⟩ : ∃ w9, w8.alloc (.cells #[.string ⟨#[106, 111, 110, 101, 115]⟩, .slice (some ⟨g2, 0, none⟩) 1 1, .string ⟨#[115, 109, 105, 116, 104]⟩, .slice (some ⟨g3, 0, none⟩) 3 3] 99) = w9 := ⟨_, rfl⟩
  have hxw9 : Ext w8 w9 := by rw [← hw9]; exact (Ext.refl w8).alloc _
  have hbw9 : w9.heap[g4]? = some (.cells #[.string ⟨#[106, 111, 110, 101, 115]⟩, .slice (some ⟨g2, 0, none⟩) 1 1, .string ⟨#[115, 109, 105, 116, 104]⟩, .slice (some ⟨g3, 0, none⟩) 3 3] 99 (0, 0)) := by rw [← hw9, ← hg4]; exact heap_alloc_new _ _
  have hx79 : Ext w7 w9 := hxc.trans (hxd.trans (hxe.trans (hxw8.trans hxw9)))
  have HX79 := Lib.hid hx79
  have HW9 := Lib.hid (show kIt.row w9 (fun _ => True) (some ⟨g4, 0, none⟩) 2 exWant from it2_block hbw9 (ct_block (W := w9) [exPl 2] ((hx79.block _ (lt_of_block HG2.out)).trans HG2.out) rfl trivial) (ct_block (W := w9) [exPl 1, exPl 2, exPl 3] ((hxw9.block _ (lt_of_block hbw8)).trans hbw8) rfl trivial))
  clear hxc hxd hxe hxw8 hxw9 hbw8 hbw9 hx79
  go_wp2_with fail
  refine (at31_any 2 w9).mono ?_
  rintro e wf ⟨rfl, hxf⟩
  clear hg3 hw8 hg4 hw9
  obtain ⟨g5, hg5⟩ : ∃ g5, wf.heap.size = g5 := ⟨_, rfl⟩
  obtain ⟨w10, hw10⟩ : ∃ w10, wf.alloc (.cells #[.int .i64 3, .int .i64 1, .int .i64 0, .int .i64 2] 69) = w10 := ⟨_, rfl⟩
  have hxw10 : Ext wf w10 := by rw [← hw10]; exact (Ext.refl wf).alloc _
  have hbw10 : w10.heap[g5]? = some (.cells #[.int .i64 3, .int .i64 1, .int .i64 0, .int .i64 2] 69 (0, 0)) := by rw [← hw10, ← hg5]; exact heap_alloc_new _ _
  have HX910 := Lib.hid (hxf.trans hxw10)
  have HG5 := Lib.hid hbw10
  clear hxf hxw10 hbw10
  go_wp2_with fail
  refine (at31_any 2 w10).mono ?_
  rintro e wg ⟨rfl, hxg⟩
  clear hg5 hw10
  go_wp2_with fail
  refine (at31_any 3 wg).mono ?_
  rintro e wh ⟨rfl, hxh⟩
  obtain ⟨g6, hg6⟩ : ∃ g6, wh.heap.size = g6 := ⟨_, rfl⟩
  obtain ⟨w11, hw11⟩ : ∃ w11, wh.alloc (.cells #[.int .i64 3, .int .i64 1, .int .i64 0, .int .i64 2, .int .i64 3, .int .i64 1, .int .i64 0, .int .i64 3] 69) = w11 := ⟨_, rfl⟩
  have hxw11 : Ext wh w11 := by rw [← hw11]; exact (Ext.refl wh).alloc _
  have hbw11 : w11.heap[g6]? = some (.cells #[.int .i64 3, .int .i64 1, .int .i64 0, .int .i64 2, .int .i64 3, .int .i64 1, .int .i64 0, .int .i64 3] 69 (0, 0)) := by rw [← hw11, ← hg6]; exact heap_alloc_new _ _
  obtain ⟨g7, hg7⟩ : ∃ g7, w11.heap.size = g7 := ⟨_, rfl⟩
  obtain ⟨w12, hw12⟩ : ∃ w12, w11.alloc (.cells #[.string ⟨#[106, 111, 110, 101, 115]⟩, .slice (some ⟨g5, 0, none⟩) 1 1, .string ⟨#[115, 109, 105, 116, 104]⟩, .slice (some ⟨g6, 0, none⟩) 2 2] 99) = w12 := ⟨_, rfl⟩
  have hxw12 : Ext w11 w12 := by rw [← hw12]; exact (Ext.refl w11).alloc _
  have hbw12 : w12.heap[g7]? = some (.cells #[.string ⟨#[106, 111, 110, 101, 115]⟩, .slice (some ⟨g5, 0, none⟩) 1 1, .string ⟨#[115, 109, 105, 116, 104]⟩, .slice (some ⟨g6, 0, none⟩) 2 2] 99 (0, 0)) := by rw [← hw12, ← hg7]; exact heap_alloc_new _ _
  have hx1012 : Ext w10 w12 := hxg.trans (hxh.trans (hxw11.trans hxw12))
  have HW12 := Lib.hid (show kIt.row w12 (fun _ => True) (some ⟨g7, 0, none⟩) 2 exSealed from it2_block hbw12 (ct_block (W := w12) [exPl 2] ((hx1012.block _ (lt_of_block HG5.out)).trans HG5.out) rfl trivial) (ct_block (W := w12) [exPl 2, exPl 3] ((hxw12.block _ (lt_of_block hbw11)).trans hbw11) rfl trivial))
  have HX912 := Lib.hid (HX910.out.trans hx1012)
  have HX412 := Lib.hid (HX45.out.trans (HX56.out.trans (HX67.out.trans (HX79.out.trans HX912.out))))
  have HX212 := Lib.hid (HX24.out.trans HX412.out)
  clear hxg hxh hxw11 hxw12 hbw11 hbw12 hx1012
  have hmx : ∀ x ∈ exWant ++ exWant, x.2.length ≤ 100000000 := by decide
  have hms : ∀ x ∈ exSealed ++ exSealed, x.2.length ≤ 100000000 := by decide
  have HM1 := Lib.hid hmx
  have HM2 := Lib.hid hms
  clear hmx hms
  go_wp2_with fail
  refine (same_any _ _ w12 exWant exWant HM1.out A1 (some ⟨g4, 0, none⟩) n1 2 c1 2 (HT1.out.ext HX212.out).row (Lay.row_ext HW9.out HX912.out) (by have := HT1.out.n; omega) (by omega)).mono ?_
  rintro e wj ⟨rfl, qj, rfl⟩
  rw [show decide (exWant = exWant) = true from decide_eq_true rfl]
  clear hg6 hw11 hg7 hw12
  go_wp2_with fail
  refine (same_any _ _ (w12.drewN qj) exSealed exSealed HM2.out A2 (some ⟨g7, 0, none⟩) n2 2 c2 2 ((HT2.out.ext HX412.out).ext ((Ext.refl w12).drewN qj)).row (Lay.row_ext HW12.out ((Ext.refl w12).drewN qj)) (by have := HT2.out.n; omega) (by omega)).mono ?_
  rintro e wk ⟨rfl, qk, rfl⟩
  rw [show decide (exSealed = exSealed) = true from decide_eq_true rfl]
  have HXK := Lib.hid (show Ext w12 ((w12.drewN qj).drewN qk) from ((Ext.refl w12).drewN qj).drewN qk)
  obtain ⟨w13, hw13⟩ : ∃ w13, (w12.drewN qj).drewN qk = w13 := ⟨_, rfl⟩
  rw [hw13] at HXK ⊢
  clear hw13
  go_wp2_with fail
  refine (at31_any 2 w13).mono ?_
  rintro e wl ⟨rfl, hxl⟩
  obtain ⟨g8, hg8⟩ : ∃ g8, wl.heap.size = g8 := ⟨_, rfl⟩
  obtain ⟨w14, hw14⟩ : ∃ w14, wl.alloc (.cells #[.int .i64 3, .int .i64 1, .int .i64 0, .int .i64 2] 69) = w14 := ⟨_, rfl⟩
  have hxw14 : Ext wl w14 := by rw [← hw14]; exact (Ext.refl wl).alloc _
  have hbw14 : w14.heap[g8]? = some (.cells #[.int .i64 3, .int .i64 1, .int .i64 0, .int .i64 2] 69 (0, 0)) := by rw [← hw14, ← hg8]; exact heap_alloc_new _ _
  have HX14 := Lib.hid (HXK.out.trans (hxl.trans hxw14))
  have HR14 := Lib.hid (show kCt.row w14 (fun _ => True) (some ⟨g8, 0, none⟩) 1 [exPl 2] from ct_block (W := w14) [exPl 2] hbw14 rfl trivial)
  have HR3' := Lib.hid (Lay.row_ext HR3.out (HX56.out.trans (HX67.out.trans (HX79.out.trans (HX912.out.trans HX14.out)))))
  clear hxl hxw14 hbw14
  go_wp2_with fail
  refine (samec_any _ _ w14 [exPl 2] [exPl 2] A3 (some ⟨g8, 0, none⟩) n3 1 c3 1 HR3'.out HR14.out (by have := Lay.row_len HR3'.out; simp at this; omega) (by omega)).mono ?_
  rintro e wm ⟨rfl, qm, rfl⟩
  rw [show decide ([exPl 2] = [exPl 2]) = true from decide_eq_true rfl]
  clear hg8 hw14
  have HX15 := Lib.hid (HX212.out.trans (HX14.out.drewN qm))
  have HX415 := Lib.hid (HX412.out.trans (HX14.out.drewN qm))
  have HX915 := Lib.hid (HX912.out.trans (HX14.out.drewN qm))
  obtain ⟨w15, hw15⟩ : ∃ w15, w14.drewN qm = w15 := ⟨_, rfl⟩
  rw [hw15] at HX15 HX415 HX915 ⊢
  clear hw15
  obtain ⟨d0, d1, d2⟩ := HZC.out w15 (HX2.out.trans HX15.out)
  go_wp2_with fail
  refine (HRUN.out w15 (HX2.out.trans HX15.out) 0 [] none 0 0 (Lay.row_nil _ _ _) (fun s hs => by cases hs) (by omega) [] ex_items.2.2 ex_len.2.2).mono ?_
  rintro e w16 ⟨A5, n5, c5, rfl, hT5, hx16⟩
  obtain rfl : n5 = 0 := hT5.n.1
  have HX16 := Lib.hid hx16
  clear hT5 hx16 d0 d1 d2
  go_wp2_with fail
  refine (imerge_any w16 A1 A2 n1 n2 c1 c2 10 10 exWant exSealed (HT1.out.ext (HX15.out.trans HX16.out)) (HT2.out.ext (HX415.out.trans HX16.out)) (by omega)).mono ?_
  rintro e w17 ⟨A6, n6, c6, rfl, hT6, hx17⟩
  rw [ex_find.2.2] at hT6
  have HT6 := Lib.hid hT6
  have HX17 := Lib.hid (HX16.out.trans hx17)
  clear hT6 hx17
  go_wp2_with fail
  refine (same_any _ _ w17 exWant exWant HM1.out A6 (some ⟨g4, 0, none⟩) n6 2 c6 2 HT6.out.row (Lay.row_ext HW9.out (HX915.out.trans HX17.out)) (by have := HT6.out.n; omega) (by omega)).mono ?_
  rintro e wn ⟨rfl, qn, rfl⟩
  rw [show decide (exWant = exWant) = true from decide_eq_true rfl]
  go_wp2_with fail
  go_ret
  exact ⟨rfl, HX1.out.trans (HX2.out.trans (HX15.out.trans (HX17.out.drewN qn)))⟩
end Go.Proofs.YtdbnddmncbjobaaGreatDoor

/- The reference's Regular at a table: walked. -/
namespace Go.Proofs.YtdbnddmncbjobaaGreatDoor
open Go Go.RowKit
attribute [local go_sem] Oper.semAt_some

end Go.Proofs.YtdbnddmncbjobaaGreatDoor

/- The law IndexMerges: walked. -/
namespace Go.Proofs.YtdbnddmncbjobaaGreatDoor
open Go Go.RowKit
attribute [local go_sem] Oper.semAt_some

theorem TbV.big {W : World} {A : Option Addr} {n c : Nat} {T : Tb} {M : Nat} (h : TbV W A n c T M) (hM : M ≤ 100000000) : n ≤ 100000000 ∧ ∀ x ∈ T, x.2.length ≤ 100000000 :=
  ⟨by have := h.n.2.1; omega, fun x hx => by have := h.n.2.2 x hx; omega⟩
/-- Same at two tables in memory. -/
theorem same_tb {w : World} {A A' : Option Addr} {n n' c c' : Nat} {S T : Tb} {M M' : Nat} (h : TbV w A n c S M) (h' : TbV w A' n' c' T M') (hM : M ≤ 100000000) (hM' : M' ≤ 100000000) (r : Bool) (hr : decide (S = T) = r) :
    Calls Tryz.prog 18 #[.slice A n c, .slice A' n' c'] w fun e w' => e = .returned (.bool r) ∧ Ext w w' := by
  refine (same_any _ _ w S T (fun x hx => ?_) A A' n n' c c' h.row h'.row (h.big hM).1 (h'.big hM').1).mono ?_
  · rcases List.mem_append.1 hx with hx | hx
    · exact (h.big hM).2 x hx
    · exact (h'.big hM').2 x hx
  · rintro e w' ⟨rfl, q, rfl⟩
    exact ⟨by rw [hr], (Ext.refl w).drewN q⟩
end Go.Proofs.YtdbnddmncbjobaaGreatDoor

/- Hits of books that grow, of words and of places, in plain Lean. -/
namespace Go.Proofs.YtdbnddmncbjobaaGreatDoor

theorem hit_sub {b b' : Bk} (h1 : ∀ p ∈ pagesB b, p ∈ pagesB b') (h2 : ∀ e v t, textB b e v = some t → textB b' e v = some t) {br tb : Int} {ls : List Sea} {k : List UInt8} {c : Ct} (hh : Hit br tb ls b k c) : Hit br tb ls b' k c := by
  obtain ⟨p, hp, t, ht, i, x, hx, n, g⟩ := hh
  exact ⟨p, h1 p hp, t, h2 _ _ _ ht, i, x, hx, n, g⟩
theorem Keeps.pages {b b' : Bk} {e v : Int} (h : OkK b) (hk : Keeps b b' e v) : ∀ p ∈ pagesB b, p ∈ pagesB b' := fun _ hp => (page_mem (hk.page _ _ _ (page_of_mem h hp))).1
theorem hit_add {b : Bk} {N V : Nat} (h : OkB b N V) {e v : Int} {t : Tx} (ht : OkT t) (hn : ∀ y ∈ b.secs, y.ent ≠ e) {br tb : Int} {ls : List Sea} {k : List UInt8} {c : Ct} (hh : Hit br tb ls b k c) : Hit br tb ls (addP b e v t) k c := by
  have hk : Keeps b (addP b e v t) 0 0 := keeps_add h.okK 0 0 ⟨e, false, [v], [t]⟩ ⟨200, fun u hu => by simp only [List.mem_singleton] at hu; subst hu; exact OkT.pgs h ht⟩ ⟨by simp, rfl⟩ hn
  refine hit_sub (hk.pages h.okK) (fun e' v' t' h9 => ?_) hh
  unfold textB at h9 ⊢
  obtain ⟨x, h1, h2⟩ := Option.bind_eq_some_iff.1 h9
  simp only [addP]
  rw [List.find?_append, h1, Option.some_or, Option.bind_some]
  exact h2
theorem hit_cor {b : Bk} {N V : Nat} (h : OkB b N V) {i : Nat} {x : Se} (hx : b.secs[i]? = some x) {v : Int} {t : Tx} (ht : OkT t) (hv : v ∉ x.vers) {br tb : Int} {ls : List Sea} {k : List UInt8} {c : Ct} (hh : Hit br tb ls b k c) : Hit br tb ls (corP b i x v t) k c := by
  obtain ⟨s1, s2⟩ := set_split hx (corS x v t)
  have hk : Keeps b (corP b i x v t) x.ent 0 := by
    have := keeps_correct h.okK x.ent 0 v t _ _ x s1 (OkT.pgs h ht).1 rfl hv
    unfold corP; rw [s2]; exact this
  refine hit_sub (hk.pages h.okK) (fun e' v' t' h9 => ?_) hh
  unfold textB at h9 ⊢
  simp only [corP]
  rw [s2]
  rw [s1] at h9
  rw [List.find?_append] at h9 ⊢
  cases hf : (b.secs.take i).find? (fun y => y.ent == e') with
  | some y => rw [hf] at h9; simpa using h9
  | none =>
    rw [hf] at h9
    simp only [Option.none_or, List.find?_cons] at h9 ⊢
    have e1 : (corS x v t).ent = x.ent := rfl
    rw [e1]
    cases hxe : x.ent == e' with
    | false => rw [hxe] at h9; exact h9
    | true =>
      rw [hxe] at h9
      simp only [Option.bind_some] at h9 ⊢
      have hl := (h.vs x (List.mem_of_getElem? hx)).1
      simp only [corS]
      rw [List.zip_append hl, List.find?_append]
      obtain ⟨q, h3, h4⟩ := Option.map_eq_some_iff.1 h9
      rw [h3, Option.some_or, Option.map_some, h4]
end Go.Proofs.YtdbnddmncbjobaaGreatDoor

/- The law IndexSeals: walked (printed by genzd.py). -/
namespace Go.Proofs.YtdbnddmncbjobaaGreatDoor
open Go Go.RowKit
attribute [local go_sem] Oper.semAt_some

/-- within, at a table that holds the other. -/
theorem within31_any (w : World) (A A' : Option Addr) (n n' c c' M M' : Nat) (S T : Tb) (hS : TbV w A n c S M) (hT : TbV w A' n' c' T M') (hM : M + M' ≤ 40000000) (hst : mrgP S T = T) :
    Calls Tryz.prog 28 #[.slice A n c, .slice A' n' c'] w fun e w' => e = .returned (.bool true) ∧ Ext w w' := by
  have HM := Lib.hid (rmerge_any w A A' n n' c c' M M' S T hS hT hM)
  rw [hst] at HM
  have HT := Lib.hid hT
  clear hS hT hst
  go_enter Tryz.func28, Tryz.ntmps28
  go_wp2_with fail
  refine (HM.out).mono ?_
  rintro e w1 ⟨A1, n1, c1, rfl, h1, hx1⟩
  have H1 := Lib.hid h1
  have HX := Lib.hid hx1
  clear h1 hx1 HM
  go_wp2_with fail
  refine (same_tb H1.out (HT.out.ext HX.out) (by omega) (by omega) true (decide_eq_true rfl)).mono ?_
  rintro e w2 ⟨rfl, hx2⟩
  have HX2 := Lib.hid hx2
  clear hx2
  go_wp2_with fail
  go_ret
  exact ⟨rfl, HX.out.trans HX2.out⟩
/-- Items at a book that was made. -/
theorem items_mk (w : World) (b : Bk) (br tb : Int) (ls : List Sea) (A A2 : Option Addr) (N c n2 c2 : Nat) (P Q : Nat → Prop) (hb : OkB b 4 3) (hr : kSe.row w P A N b.secs) (hs : kSea.row w Q A2 n2 ls) (hn : n2 ≤ 1000000) (hg : ∀ s ∈ ls, OkSea s) (hL : EnvW w) :
    Calls Tryz.prog 19 #[.agg #[.int .i64 b.ms, .int .i64 b.ht, .slice A N c], .int .i64 br, .int .i64 tb, .slice A2 n2 c2] w fun e w' => ∃ A1 n1 c1, e = .returned (.slice A1 n1 c1) ∧ TbV w' A1 n1 c1 (itemsB br tb ls b) 16000000 ∧ Ext w w' := by
  refine (iitems_any P Q w b 4 3 br tb ls A A2 N c n2 c2 hb (by omega) (by omega) (by omega) hr hs hn hg hL).mono ?_
  rintro e w' ⟨A1, n1, c1, rfl, h1, h2⟩
  exact ⟨A1, n1, c1, rfl, TbV.mono h1 (hits_len hb (by omega) br tb ls), h2⟩
end Go.Proofs.YtdbnddmncbjobaaGreatDoor

/- What book.Correct does in memory: a version and a text are appended to a section of a cloned book. -/
namespace Go.Proofs.YtdbnddmncbjobaaGreatDoor
open Go Go.RowKit

theorem info3b : (Tryz.prog.info? 3).map (fun i => (i.zero, i.size, i.bytes)) = some (some (Value.int .i64 0), 1, 8) := by kernel_rfl
theorem cor_mem {w5 : World} {base g i M : Nat} {ls : List Se} {x : Se} {ds : List (Cs kSe.sz)} {lof : Nat → Nat} (hbg : base ≤ g) (hg : w5.heap[g]? = some (.cells (gcells ccf ds).toArray 46 (0, 0))) (hdl : ds.length = ls.length) (hlo0 : g < lof 0 ∧ (∀ j, j < ls.length → lof j ≤ lof (j + 1)) ∧ lof ls.length ≤ M) (hM : M ≤ w5.heap.size)
    (hall : ∀ (j : Nat) (d : Cs kSe.sz) (x : Se), ds[j]? = some d → ls[j]? = some x → SeO w5 (lof j) (lof (j + 1)) x (ccf d)) (hx : ls[i]? = some x) (hnv : x.vers.length < 1000000) (hnt : x.texts.length < 1000000) (v : Int) :
    ∃ (lo hi : Nat) (A1 : Option Addr) (n1 c1 : Nat) (A2 : Option Addr) (n2 c2 : Nat) (A1' : Option Addr) (c1' : Nat) (w6 : World),
      (g < lo ∧ lo ≤ hi ∧ hi ≤ M ∧ base ≤ g ∧ g < w5.heap.size) ∧ n1 = x.vers.length ∧
      (∀ X : World, X.heap[g]? = w5.heap[g]? → X.cell? ⟨g, i * 4 + 1, none⟩ = some (.bool x.fz) ∧ X.cell? ⟨g, i * 4 + 2, none⟩ = some (.slice A1 n1 c1) ∧ X.cell? ⟨g, i * 4 + 3, none⟩ = some (.slice A2 n2 c2) ∧ X.frozen? ⟨g, i * 4 + 2, none⟩ = false ∧ X.frozen? ⟨g, i * 4 + 3, none⟩ = false) ∧
      (Builtin.append_ #[22, 22] 22 #[.slice A1 n1 c1, .slice (some ⟨w5.heap.size, 0, none⟩) 1 1]).run Tryz.prog ((w5.alloc (.cells #[.int .i64 v] 3)).drew) = .ok (.slice A1' (n1 + 1) c1') w6 ∧
      (∀ B, B ≤ lo → Below B w5 w6) ∧ (∀ j, j < w5.heap.size → ¬ (lo ≤ j ∧ j < hi) → w6.heap[j]? = w5.heap[j]?) ∧ w5.heap.size ≤ w6.heap.size ∧
      ∀ (t : Tx) (wG : World) (A7 A8 : Option Addr) (n7 c7 n8 c8 : Nat), Ext w6 wG → n7 ≤ c7 → n8 ≤ c8 → kWs.row wG (fun j => w6.heap.size ≤ j) A7 n7 t.paras → kWs.row wG (fun j => w6.heap.size ≤ j) A8 n8 t.notes →
        ∃ A2' c2' w8, (Builtin.append_ #[44, 44] 44 #[.slice A2 n2 c2, .slice (some ⟨wG.heap.size, 0, none⟩) 1 1]).run Tryz.prog (wG.alloc (.cells #[.slice A7 n7 c7, .slice A8 n8 c8] 53)) = .ok (.slice A2' (n2 + 1) c2') w8 ∧
          (∀ B, B ≤ lo → Below B w5 w8) ∧ (∀ j, j < w5.heap.size → ¬ (lo ≤ j ∧ j < hi) → w8.heap[j]? = w5.heap[j]?) ∧ w5.heap.size ≤ w8.heap.size ∧
          kSe.row ((w8.setCell ⟨g, i * 4 + 2, none⟩ (.slice A1' (n1 + 1) c1')).setCell ⟨g, i * 4 + 3, none⟩ (.slice A2' (n2 + 1) c2')) (fun j => base ≤ j) (some ⟨g, 0, none⟩) ls.length (ls.set i (corS x v t)) := by
  obtain ⟨l1, l2, l3⟩ := hlo0
  have hil := (List.getElem?_eq_some_iff.1 hx).1
  have hgl := lt_of_block hg
  obtain ⟨d, hdi⟩ : ∃ d, ds[i]? = some d := ⟨_, List.getElem?_eq_getElem (by omega)⟩
  obtain ⟨m, A1, n1, c1, A2, n2, c2, hdc, hm1, hm2, h4, h5, h6, h7, ho2, ho2m, ho1, ho1h⟩ := hall i d x hdi hx
  have hlo : g < lof i := Nat.lt_of_lt_of_le l1 (lo_mono l2 i 0 (by omega) (by omega))
  have hhi : lof (i + 1) ≤ M := Nat.le_trans (lo_mono l2 ls.length (i + 1) (by omega) (Nat.le_refl _)) l3
  have hlt1 := Lay.own_lt ho1
  have hlt2 := Lay.own_lt ho2
  -- the first append
  have ho1d : kInt.own 3 w5.drew m (fun _ => False) (.slice A1 n1 c1) x.vers := Lay.own_ext ho1 (Ext.refl _).drew
  obtain ⟨A1', c1', w6, r1, r2, r3, r4, r5, r6⟩ := own_app1 (k := kInt) (Pr := Tryz.prog) (t := 22) Tryz.underlying22 info3b rfl (by decide) (by omega) ho1d (show m ≤ w5.heap.size by omega) (cs := #[.int .i64 v]) (T := 3) (x := v) rfl 1 (by omega)
  rw [← h6] at r1 r2 r6
  have hs5 : w5.drew.heap.size = w5.heap.size := rfl
  rw [hs5] at r1 r4 r5 r6
  have r1' : (Builtin.append_ #[22, 22] 22 #[.slice A1 n1 c1, .slice (some ⟨w5.heap.size, 0, none⟩) 1 1]).run Tryz.prog ((w5.alloc (.cells #[.int .i64 v] 3)).drew) = .ok (.slice A1' (n1 + 1) c1') w6 := r1
  have hb6 : ∀ B, B ≤ lof i → Below B w5 w6 := fun B hB => Below.trans (Below.drew (Below.refl B w5)) (r3 B (by omega))
  have hk6 : ∀ j, j < w5.heap.size → ¬ (lof i ≤ j ∧ j < lof (i + 1)) → w6.heap[j]? = w5.heap[j]? := fun j hj hn => r4 j hj fun e => by
    have := hlt1 j e
    have := ho1h j e
    omega
  have hk6m : ∀ j, j < m → j < w5.heap.size → w6.heap[j]? = w5.heap[j]? := fun j hj hl => r4 j hl fun e => by have := hlt1 j e; omega
  refine ⟨lof i, lof (i + 1), A1, n1, c1, A2, n2, c2, A1', c1', w6, ⟨hlo, by omega, hhi, hbg, hgl⟩, h6, fun X hX => ?_, r1', hb6, hk6, r5, ?_⟩
  · have hcl : ∀ k u, (ccf d)[k]? = some u → X.cell? ⟨g, i * 4 + k, none⟩ = some u := fun k u hu => by
      have hk : k < kSe.sz := by rw [← ccf_len d]; exact (List.getElem?_eq_some_iff.1 hu).1
      have h9 := gcells_at (cf := ccf) ccf_len ds i d hdi k hk
      rw [hu] at h9
      have h9' : (gcells ccf ds)[i * 4 + k]? = some u := h9
      exact cell_of (hX.trans hg) (by simpa using h9')
    rw [hdc] at hcl
    exact ⟨hcl 1 _ rfl, hcl 2 _ rfl, hcl 3 _ rfl, frozen_of (hX.trans hg) _, frozen_of (hX.trans hg) _⟩
  · intro t wG A7 A8 n7 c7 n8 c8 hG h77 h88 hr7 hr8
    have ho26 : kTx.own 53 w6 (lof i) (fun q => lof i ≤ q ∧ q < m) (.slice A2 n2 c2) x.texts := Lay.own_keep ho2 r5 fun j hj hl => hk6m j (by
      rcases hj with hj | hj
      · exact hj.2
      · exact ho2m j hj) hl
    have ho2G : kTx.own 53 wG (lof i) (fun q => (lof i ≤ q ∧ q < m) ∨ w6.heap.size ≤ q) (.slice A2 n2 c2) x.texts := Lay.own_mono (Lay.own_ext ho26 hG) fun j hj _ => .inl hj
    have hsub : ∀ j, w6.heap.size ≤ j → j < wG.heap.size → ((lof i ≤ j ∧ j < m) ∨ w6.heap.size ≤ j) ∧ (Value.slice A2 n2 c2).ownBlock ≠ some j := fun j hj _ => ⟨.inr hj, fun e => by have := hlt2 j e; omega⟩
    obtain ⟨A2', c2', w8, q1, q2, q3, q4, q5, q6⟩ := own_app1 (k := kTx) (Pr := Tryz.prog) (t := 44) Tryz.underlying44 info53 rfl (by decide) (by omega) ho2G (by have := hG.lt; omega) (cs := #[.slice A7 n7 c7, .slice A8 n8 c8]) (T := 53) (x := t)
      (kTx_rep.2 ⟨A7, n7, c7, A8, n8, c8, rfl, h77, h88, Lay.row_mono hr7 hsub, Lay.row_mono hr8 hsub⟩) 1 (by omega)
    rw [← h7] at q1 q2 q6
    have hGl := hG.lt
    have hk8 : ∀ j, j < w5.heap.size → ¬ (lof i ≤ j ∧ j < lof (i + 1)) → w8.heap[j]? = w5.heap[j]? := fun j hj hn => (q4 j (by omega) fun e => by have := hlt2 j e; have := ho2m j e; omega).trans ((hG.block j (by omega)).trans (hk6 j hj hn))
    have hb8 : ∀ B, B ≤ lof i → Below B w5 w8 := fun B hB => Below.trans (Below.trans (hb6 B hB) (Below.mono hG (by omega))) (q3 B hB)
    refine ⟨A2', c2', w8, q1, hb8, hk8, by omega, ?_⟩
    obtain ⟨w10, hw10⟩ : ∃ w10, (w8.setCell ⟨g, i * 4 + 2, none⟩ (.slice A1' (n1 + 1) c1')).setCell ⟨g, i * 4 + 3, none⟩ (.slice A2' (n2 + 1) c2') = w10 := ⟨_, rfl⟩
    have hkg : ∀ q, q ≠ g → w10.heap[q]? = w8.heap[q]? := fun q hq => by
      rw [← hw10, heap_setCell_other _ ⟨g, i * 4 + 3, none⟩ q _ hq, heap_setCell_other _ ⟨g, i * 4 + 2, none⟩ q _ hq]
    have hs10 : w10.heap.size = w8.heap.size := by rw [← hw10]; simp
    have hg8 : w8.heap[g]? = some (.cells (gcells ccf ds).toArray 46 (0, 0)) := (hk8 g hgl (by omega)).trans hg
    -- the versions in w10
    have hlt1' := Lay.own_lt r2
    have hlt2' := Lay.own_lt q2
    have ho1v : kInt.own 3 w10 m (fun _ => False) (.slice A1' (n1 + 1) c1') (x.vers ++ [v]) := by
      refine Lay.own_keep r2 (by omega) fun j hj hl => ?_
      rcases hj with hj | hj
      · exact hj.elim
      · have h1 := hlt1' j hj
        refine (hkg j (by omega)).trans ((q4 j (by omega) fun e => ?_).trans (hG.block j hl))
        have := ho2m j e
        omega
    have ho2t : kTx.own 53 w10 (lof i) (fun q => (lof i ≤ q ∧ q < m) ∨ w6.heap.size ≤ q) (.slice A2' (n2 + 1) c2') (x.texts ++ [t]) := by
      refine Lay.own_keep q2 (by omega) fun j hj hl => hkg j ?_
      rcases hj with (hj | hj) | hj
      · omega
      · omega
      · have := hlt2' j hj; omega
    obtain ⟨B1, d1, e1, f1, g1⟩ := Lay.own_row ho1v
    obtain ⟨B2, d2, e2, f2, g2⟩ := Lay.own_row ho2t
    obtain ⟨e11, e12, e13⟩ := Value.slice.inj e1
    obtain ⟨e21, e22, e23⟩ := Value.slice.inj e2
    rw [← e11, ← e12] at g1
    rw [← e21, ← e22] at g2
    have hltv := Lay.own_lt ho1v
    have hltt := Lay.own_lt ho2t
    have hrep : kSe.rep w10 (fun q => base ≤ q) (corS x v t) [.int .i64 x.ent, .bool x.fz, .slice A1' (n1 + 1) c1', .slice A2' (n2 + 1) c2'] :=
      kSe_rep.2 ⟨A1', n1 + 1, c1', A2', n2 + 1, c2', rfl, by rw [e12, e13]; exact f1, by rw [e22, e23]; exact f2, Lay.row_mono g1 fun q hq _ => by
        rcases hq with hq | hq
        · exact hq.elim
        · have := hltv q hq; omega, Lay.row_mono g2 fun q hq _ => by
        rcases hq with (hq | hq) | hq
        · omega
        · omega
        · have := hltt q hq; omega⟩
    obtain ⟨d', hd'⟩ : ∃ d' : Cs kSe.sz, ccf d' = [.int .i64 x.ent, .bool x.fz, .slice A1' (n1 + 1) c1', .slice A2' (n2 + 1) c2'] := mkCs _ (kSe.len hrep) (kSe.one hrep)
    have hg10 : w10.heap[g]? = some (.cells (gcells ccf (ds.set i d')).toArray 46 (0, 0)) := by
      rw [← hw10, heap_setCell_same _ g (i * 4 + 3) _ 46 _ (heap_setCell_same _ g (i * 4 + 2) _ 46 _ hg8), ← put2_se ds i d hdi _ _ _ _ _ _ hdc d' hd']
      simp
    rw [hw10]
    have hrow : ∀ (j : Nat) (dj : Cs kSe.sz) (y : Se), (ds.set i d')[j]? = some dj → (ls.set i (corS x v t))[j]? = some y → kSe.rep w10 (fun q => base ≤ q) y (ccf dj) := fun j dj y hdj hyj => by
      rw [List.getElem?_set] at hdj hyj
      by_cases hij : i = j
      · subst hij
        rw [if_pos rfl, if_pos (by omega)] at hdj
        rw [if_pos rfl, if_pos (by omega)] at hyj
        injection hdj with hdj
        injection hyj with hyj
        subst hdj hyj
        rw [hd']; exact hrep
      · rw [if_neg hij] at hdj hyj
        have hjl := (List.getElem?_eq_some_iff.1 hyj).1
        have hlj : g < lof j := Nat.lt_of_lt_of_le l1 (lo_mono l2 j 0 (by omega) (by omega))
        have hhj : lof (j + 1) ≤ M := Nat.le_trans (lo_mono l2 ls.length (j + 1) (by omega) (Nat.le_refl _)) l3
        have h9 := (hall j dj y hdj hyj).keep (W' := w10) (by omega) fun q hq1 hq2 hl => (hkg q (by omega)).trans (hk8 q hl (by
          rcases Nat.lt_or_gt_of_ne hij with h | h
          · have := lo_mono l2 j (i + 1) (by omega) (by omega); omega
          · have := lo_mono l2 i (j + 1) (by omega) (by omega); omega))
        exact kSe.mono h9.rep fun q hq _ => by omega
    have hl := gcells_len (cf := ccf) ccf_len (ds.set i d')
    refine ⟨ds.set i d', by rw [List.length_set], by rw [List.length_set, List.length_set]; exact hdl, ⟨by rw [List.length_set]; omega, fun _ => ⟨g, 0, rfl, lt_of_block hg10, fun k dk hdk j u hu => ?_⟩⟩, fun a ha => ?_, hrow⟩
    · have hj : j < kSe.sz := by rw [← ccf_len dk]; exact (List.getElem?_eq_some_iff.1 hu).1
      have := gcells_at (cf := ccf) ccf_len (ds.set i d') k dk hdk j hj
      rw [hu] at this
      rw [Nat.zero_add]
      exact cell_of hg10 (by simpa using this)
    · injection ha with ha; subst ha; exact ⟨hbg, lt_of_block hg10⟩
end Go.Proofs.YtdbnddmncbjobaaGreatDoor
