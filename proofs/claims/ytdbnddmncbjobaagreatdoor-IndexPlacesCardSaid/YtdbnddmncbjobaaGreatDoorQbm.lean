/- The lines of a generated book's pages: which words they bear; how many hits there are. -/
import Derived.Test.YtdbnddmncbjobaaGreatDoorQbl
namespace Go.Proofs.YtdbnddmncbjobaaGreatDoor

def RngL (B : Nat) (x : Ln) : Prop := 0 ≤ x.fr ∧ x.un - x.fr ≤ 40 ∧ x.un ≤ (B : Nat)
theorem linesGo_rng (m : Int) : ∀ (ls : List Nat) (ws : List Wd) (first : Int), ∀ x ∈ linesGo m ws ls first, first ≤ x.fr ∧ x.un ≤ first + (ls.sum : Nat) ∧ x.un - x.fr ≤ (ls.sum : Nat)
  | [], ws, _, x, hx => by cases ws <;> simp [linesGo] at hx
  | l :: ls, ws, first, x, hx => by
    simp only [linesGo] at hx
    rcases List.mem_cons.1 hx with rfl | hx
    · simp only [List.sum_cons]; omega
    · have := linesGo_rng m ls _ _ x hx
      simp only [List.sum_cons]; omega
theorem setP_rng {m : Int} (hm : 500 ≤ m) (ws : List Wd) (first : Int) : ∀ x ∈ setP ws first m, first ≤ x.fr ∧ x.un ≤ first + (ws.length : Nat) ∧ x.un - x.fr ≤ (ws.length : Nat) := fun x hx => by
  have h := (lens_ok hm (wds_of ws)).2
  rw [List.length_map] at h
  have := linesGo_rng m _ ws first x hx
  rw [h] at this
  exact this
theorem setsP_rng {m : Int} (hm : 500 ≤ m) : ∀ (ps : List (List Wd)) (first : Int), (∀ p ∈ ps, p.length ≤ 40) → ∀ l ∈ setsP m ps first, ∀ x ∈ l, first ≤ x.fr ∧ x.un ≤ first + (wordsN ps : Nat) ∧ x.un - x.fr ≤ 40
  | [], _, _, l, hl, _, _ => by simp [setsP] at hl
  | p :: ps, first, hp, l, hl, x, hx => by
    simp only [setsP] at hl
    have hw : wordsN (p :: ps) = p.length + wordsN ps := by simp [wordsN]
    rcases List.mem_cons.1 hl with rfl | hl
    · have h1 := setP_rng hm p first x hx
      have h2 := hp p (.head _)
      rw [hw]; omega
    · have h1 := setsP_rng hm ps _ (fun q hq => hp q (.tail _ hq)) l hl x hx
      rw [hw]; omega
theorem words_le {ps : List (List Wd)} {B : Nat} (h : ∀ p ∈ ps, p.length ≤ B) : wordsN ps ≤ ps.length * B := by
  induction ps with
  | nil => simp [wordsN]
  | cons p ps ih =>
    have h1 := ih fun q hq => h q (.tail _ hq)
    have h2 := h p (.head _)
    have hw : wordsN (p :: ps) = p.length + wordsN ps := by simp [wordsN]
    rw [hw, List.length_cons, Nat.add_mul]; omega
theorem OkT.words {t : Tx} (h : OkT t) : wordsN t.paras ≤ 160 ∧ wordsN (t.paras ++ t.notes) ≤ 200 := by
  have h1 := words_le (B := 40) fun p hp => (h.par.len p hp).2
  have h2 := words_le (B := 12) fun p hp => (h.len p hp).2
  have h3 : wordsN (t.paras ++ t.notes) = wordsN t.paras + wordsN t.notes := by simp [wordsN]
  have := h.np
  have := h.nn
  omega
theorem textP_rng {t : Tx} (ht : OkT t) {m h : Int} (hm : 500 ≤ m) (hm2 : m ≤ 2000) (hh : 4 ≤ h) (hh2 : h ≤ 100) : ∀ pg ∈ (textP t m h).2, ∀ l ∈ pg.1 ++ pg.2, RngL 200 l := by
  have hT := txP_of ht hm hm2 hh hh2
  have hl : linesT t m = (0, (setsP m t.paras 0).flatten, setsP m t.notes (t.paras.map List.length).sum) := by
    unfold linesT
    rw [if_neg (by rw [chkT_ok ht]; simp), if_neg (by omega)]
  obtain ⟨hw1, hw2⟩ := ht.words
  have hw3 : wordsN (t.paras ++ t.notes) = wordsN t.paras + wordsN t.notes := by simp [wordsN]
  have hb : ∀ l ∈ (linesT t m).2.1, RngL 200 l := fun l hl' => by
    rw [hl] at hl'
    obtain ⟨ls, hls, hx⟩ := List.mem_flatten.1 hl'
    have := setsP_rng hm t.paras 0 (fun p hp => (ht.par.len p hp).2) ls hls l hx
    unfold RngL; omega
  have hn : ∀ ls ∈ (linesT t m).2.2, ∀ l ∈ ls, RngL 200 l := fun ls hls l hl' => by
    rw [hl] at hls
    have := setsP_rng hm t.notes _ (fun p hp => by have := (ht.len p hp).2; omega) ls hls l hl'
    have h9 : (t.paras.map List.length).sum = wordsN t.paras := rfl
    rw [h9] at this
    unfold RngL; omega
  rw [hT.eq]
  unfold setPg
  rw [if_neg (by rw [hT.pg]; simp)]
  exact setF_mem h hn _ _ _ hb (fun l hl => by simp at hl)
theorem OkB.rng {b : Bk} {N V : Nat} (h : OkB b N V) : ∀ p ∈ pagesB b, ∀ l ∈ p.body ++ p.nts, RngL 200 l := fun p hp =>
  pagesS_all (fun x y => ∀ l ∈ x ++ y, RngL 200 l) b.ms b.ht b.secs 0 (fun x hx t ht q hq => textP_rng (h.tx x hx t ht) h.m0 h.m1 h.h0 h.h1 q hq) p hp
/-- How many hits there are. -/
theorem hitW_len (br tb : Int) (ls : List Sea) (t : Tx) (p : Pg) (k : Nat) (n : Int) : (hitW br tb ls t p k n).length ≤ 1 := by
  unfold hitW
  split
  · simp
  · split <;> simp
theorem hitN_len (br tb : Int) (ls : List Sea) (t : Tx) (p : Pg) (k : Nat) (n : Int) : ∀ m : Nat, (hitN br tb ls t p k n m).length ≤ m
  | 0 => by simp [hitN]
  | m + 1 => by
    rw [hitN_succ, List.length_append]
    have := hitN_len br tb ls t p k n m
    have := hitW_len br tb ls t p k (n + (m : Nat))
    omega
theorem hitX_len (br tb : Int) (ls : List Sea) (t : Tx) (p : Pg) (k : Nat) {x : Ln} (h : RngL 200 x) : (hitX br tb ls t p k x).length ≤ 40 := by
  have := hitN_len br tb ls t p k x.fr (x.un - x.fr).toNat
  unfold hitX
  have := h.2.1
  omega
theorem hitL_len (br tb : Int) (ls : List Sea) (t : Tx) (p : Pg) (xs : List Ln) (h : ∀ x ∈ xs, RngL 200 x) : ∀ m : Nat, (hitL br tb ls t p xs m).length ≤ 40 * m
  | 0 => by simp [hitL]
  | m + 1 => by
    have ih := hitL_len br tb ls t p xs h m
    cases hx : xs[m]? with
    | none =>
      have : hitL br tb ls t p xs (m + 1) = hitL br tb ls t p xs m := by
        unfold hitL; rw [List.range_succ, List.flatMap_append]; simp [hx]
      rw [this]; omega
    | some x =>
      rw [hitL_succ br tb ls t p hx, List.length_append]
      have := hitX_len br tb ls t p m (h x (List.mem_of_getElem? hx))
      omega
theorem hitP_len {b : Bk} {N V : Nat} (h : OkB b N V) (br tb : Int) (ls : List Sea) {p : Pg} (hp : p ∈ pagesB b) : (hitP br tb ls b p).length ≤ 4000 := by
  unfold hitP
  split
  · simp
  · next t _ =>
    have h1 := hitL_len br tb ls t p (p.body ++ p.nts) (h.rng p hp) (p.body ++ p.nts).length
    have := h.hgt p hp
    exact Nat.le_trans h1 (by omega)
theorem flat_le {α β : Type} {f : α → List β} {B : Nat} : ∀ {l : List α}, (∀ x ∈ l, (f x).length ≤ B) → (l.flatMap f).length ≤ l.length * B
  | [], _ => by simp
  | x :: l, h => by
    have h1 := flat_le (l := l) fun y hy => h y (.tail _ hy)
    have h2 := h x (.head _)
    rw [List.flatMap_cons, List.length_append, List.length_cons, Nat.add_mul]
    omega
theorem hits_len {b : Bk} {N V : Nat} (h : OkB b N V) (hN : 200 * V * N ≤ 4000) (br tb : Int) (ls : List Sea) : (hits br tb ls b).length ≤ 16000000 := by
  have h1 := flat_le (f := hitP br tb ls b) (l := pagesB b) fun p hp => hitP_len h br tb ls hp
  have h2 := h.np
  unfold hits
  refine Nat.le_trans h1 (Nat.le_trans (Nat.mul_le_mul_right 4000 (Nat.le_trans h2 hN)) (by omega))
theorem hitW_key {t : Tx} (h : OkT t) {br tb : Int} {ls : List Sea} {p : Pg} {k : Nat} {n : Int} : ∀ x ∈ hitW br tb ls t p k n, x.1.length ≤ 1000 := fun ⟨key, c⟩ hx => by
  obtain ⟨w, hw, rfl, _⟩ := mem_hitW.1 hx
  obtain ⟨_, _, q, hq, hwq⟩ := wordT_lt hw
  rcases List.mem_append.1 hq with hq | hq
  · have := (h.par.ok q hq w hwq).2.2.2.2; simp only; omega
  · have := (h.ok q hq w hwq).1.2.2.2.2; simp only; omega
theorem textB_ok {b : Bk} {N V : Nat} (h : OkB b N V) {e v : Int} {t : Tx} (ht : textB b e v = some t) : OkT t := by
  obtain ⟨x, hx, _, k, _, h2⟩ := textB_mem ht
  exact h.tx x hx t (List.mem_of_getElem? h2)
theorem hits_key {b : Bk} {N V : Nat} (h : OkB b N V) {br tb : Int} {ls : List Sea} : ∀ x ∈ hits br tb ls b, x.1.length ≤ 1000 := fun ⟨key, c⟩ hx => by
  obtain ⟨p, hp, t, ht, i, x, hx, n, h2, h3, w, hw, rfl, _⟩ := mem_hits.1 hx
  obtain ⟨_, _, q, hq, hwq⟩ := wordT_lt hw
  have ho := textB_ok h ht
  rcases List.mem_append.1 hq with hq | hq
  · have := (ho.par.ok q hq w hwq).2.2.2.2; simp only; omega
  · have := (ho.ok q hq w hwq).1.2.2.2.2; simp only; omega
end Go.Proofs.YtdbnddmncbjobaaGreatDoor
