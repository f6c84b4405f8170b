/- Rows of words by their blocks; the contracts of refer and last. -/
import Derived.Test.YtdbnddmncbjobaaGreatDoorQag
namespace Go.Proofs.YtdbnddmncbjobaaGreatDoor
section
open Go Go.RowKit

/-- The block g holds the words l, and is not frozen. -/
def WRow (W : World) (g : Nat) (l : List Wd) : Prop := ∃ cs t, W.heap[g]? = some (.cells cs t (0, 0)) ∧ ∀ (k : Nat) (v : Wd), l[k]? = some v → ∀ j u, (wcf v)[j]? = some u → cs[k * 4 + j]? = some u
theorem WRow.same {W W' : World} {g : Nat} {l : List Wd} (h : WRow W g l) (he : W'.heap[g]? = W.heap[g]?) : WRow W' g l := by
  obtain ⟨cs, t, h1, h2⟩ := h
  exact ⟨cs, t, he.trans h1, h2⟩
theorem WRow.lt {W : World} {g : Nat} {l : List Wd} (h : WRow W g l) : g < W.heap.size := by
  obtain ⟨cs, t, h1, _⟩ := h
  exact lt_of_block h1
theorem WRow.ext {W W' : World} {g : Nat} {l : List Wd} (h : WRow W g l) (hx : Ext W W') : WRow W' g l := h.same (hx.block g h.lt)
theorem WRow.cell {W : World} {g : Nat} {l : List Wd} (h : WRow W g l) {k : Nat} {v : Wd} (hk : l[k]? = some v) {j : Nat} {u : Value} (hu : (wcf v)[j]? = some u) : W.cell? ⟨g, k * 4 + j, none⟩ = some u := by
  obtain ⟨cs, t, h1, h2⟩ := h
  rw [cell_of_row W g _ cs t (0, 0) h1]; exact h2 k v hk j u hu
theorem WRow.froz {W : World} {g : Nat} {l : List Wd} (h : WRow W g l) (i : Nat) : W.frozen? ⟨g, i, none⟩ = false := by
  obtain ⟨cs, t, h1, _⟩ := h
  exact frozen_of_row W g i cs t h1
theorem heap_set_other (W : World) (p : Addr) (u : Value) (k : Nat) (h : p.block ≠ k) : (W.setCell p u).heap[k]? = W.heap[k]? := by
  simp [World.setCell, Array.getElem?_modify, h]
theorem WRow.set {W : World} {g : Nat} {l : List Wd} (h : WRow W g l) {k : Nat} {v v' : Wd} (hk : l[k]? = some v) {j : Nat} {u : Value} (hj : j < 4) (hv : wcf v' = (wcf v).set j u) : WRow (W.setCell ⟨g, k * 4 + j, none⟩ u) g (l.set k v') := by
  have h0 := h
  obtain ⟨cs, t, h1, h2⟩ := h
  refine ⟨cs.setIfInBounds (k * 4 + j) u, t, ?_, fun i x hi j' u' hu' => ?_⟩
  · simp [World.setCell, Array.getElem?_modify, h1]
  · have hkl : k < l.length := (List.getElem?_eq_some_iff.1 hk).1
    have hj4 : j' < 4 := by have := (List.getElem?_eq_some_iff.1 hu').1; simpa [wcf] using this
    by_cases hik : i = k
    · subst hik
      rw [List.getElem?_set_self hkl] at hi
      obtain rfl := Option.some.inj hi
      rw [hv, List.getElem?_set] at hu'
      by_cases hjj : j = j'
      · subst hjj
        rw [if_pos rfl, if_pos (by simp [wcf]; exact hj)] at hu'
        rw [Array.getElem?_setIfInBounds, if_pos rfl]
        have hc : cs[i * 4 + j]?.isSome = true := by
          have : ∃ a, (wcf v)[j]? = some a := ⟨_, List.getElem?_eq_getElem (by simp [wcf]; exact hj)⟩
          obtain ⟨a, ha⟩ := this
          rw [h2 i v hk j a ha]; rfl
        have hlt : i * 4 + j < cs.size := by
          rcases Nat.lt_or_ge (i * 4 + j) cs.size with h | h
          · exact h
          · rw [Array.getElem?_eq_none h] at hc; cases hc
        rw [if_pos hlt]; exact hu'
      · rw [if_neg hjj] at hu'
        rw [Array.getElem?_setIfInBounds, if_neg (by omega)]
        exact h2 i v hk j' u' hu'
    · rw [List.getElem?_set_ne (fun e => hik e.symm)] at hi
      rw [Array.getElem?_setIfInBounds, if_neg (by omega)]
      exact h2 i x hi j' u' hu'
def BoolIs (b : Bool) (w : World) (e : Ending) (w' : World) : Prop := e = .returned (.bool b) ∧ w' = w
/-- refer's answer: at most one Note cell of the row is written. -/
def RefPost (W : World) (g : Nat) (l : List Wd) (n : Nat) (note : Int) (later : Bool) (e : Ending) (W' : World) : Prop :=
  (e = .returned (.bool false) ∧ W' = W ∧ (later = true ∨ l.length ≤ fromGo l 0 0)) ∨ ∃ v, l[fromGo l 0 0 + n % (l.length - fromGo l 0 0)]? = some v ∧ e = .returned (.bool true) ∧ W' = W.setCell ⟨g, (fromGo l 0 0 + n % (l.length - fromGo l 0 0)) * 4 + 3, none⟩ (.int .i64 note) ∧ later = false ∧ fromGo l 0 0 < l.length
def RfRel (l : List Wd) (n : Nat) (s9 s10 : Value) : Prop := ∃ f i : Nat, f ≤ i ∧ i ≤ n ∧ fromGo l 0 0 = fromGo (l.drop i) i f ∧ s9 = .int .i64 f ∧ s10 = .int .i64 i
set_option maxHeartbeats 4000000 in
set_option maxRecDepth 100000 in
theorem refer_any (W : World) (g c : Nat) (l : List Wd) (n : Nat) (note : Int) (later : Bool) (h : WRow W g l) (hl : l.length ≤ 1000) (hn : n ≤ 1000000) :
    Calls Tryz.prog 79 #[.slice (some ⟨g, 0, none⟩) l.length c, .int .i64 n, .int .i64 note, .bool later] W (RefPost W g l n note later) := by
  have HR := Lib.hid h
  clear h
  obtain ⟨m, hm⟩ : ∃ m, m = l.length := ⟨_, rfl⟩
  rw [← hm] at hl ⊢
  have HM := Lib.hid hm
  clear hm
  go_enter Tryz.func79, Tryz.ntmps79
  go_wp2
  go_loop [9, 10] (fun s9 s10 => RfRel l m s9 s10) (fun _ s10 => toM m s10)
  case atStart => exact ⟨0, 0, by omega, by omega, rfl, rfl, rfl⟩
  case round =>
    obtain ⟨f, i, hf, hi, hfg, rfl, rfl⟩ := hrel
    have HFG := Lib.hid hfg
    clear hfg
    by_cases him : i < m
    · have himI : (i : Int) < (m : Int) := by omega
      obtain ⟨v, hv⟩ : ∃ v, l[i]? = some v := ⟨_, List.getElem?_eq_getElem (by have := HM.out; omega)⟩
      have c3 := HR.out.cell hv (j := 3) (u := .int .i64 v.nt) rfl
      have HST := Lib.hid (show fromGo l 0 0 = fromGo (l.drop (i + 1)) (i + 1) (if v.nt ≠ 0 then i + 1 else f) by rw [HFG.out, dwl' l hv]; rfl)
      clear hv
      by_cases hz : v.nt = 0
      · have gz : (v.nt != 0) = false := by rw [bne_eq_false_iff_eq]; exact hz
        have HZ := Lib.hid hz
        clear hz
        go_wp2
        exact ⟨⟨f, i + 1, by omega, by omega, by rw [HST.out, if_neg (by simpa using HZ.out)], rfl, rfl⟩, by simp only [toM]; omega⟩
      · have gz : (v.nt != 0) = true := by rw [bne_iff_ne]; exact hz
        have HZ := Lib.hid hz
        clear hz
        go_wp2
        exact ⟨⟨i + 1, i + 1, by omega, by omega, by rw [HST.out, if_pos HZ.out], rfl, rfl⟩, by simp only [toM]; omega⟩
    · obtain rfl : i = m := by omega
      have hni : ¬ ((i : Int) < (i : Int)) := by omega
      have HF0 := Lib.hid (show fromGo l 0 0 = f by rw [HFG.out, List.drop_of_length_le (by have := HM.out; omega)]; rfl)
      cases later with
      | true =>
        go_wp2
        go_ret
        exact .inl ⟨rfl, rfl, .inl rfl⟩
      | false =>
        by_cases hfm : f < i
        · have hfI : ¬ (i : Int) ≤ (f : Int) := by omega
          obtain ⟨r, hr⟩ : ∃ r, r = n % (i - f) := ⟨_, rfl⟩
          have hrl : r < i - f := by rw [hr]; exact Nat.mod_lt _ (by omega)
          have e1 : (n : Int) % ((i : Int) - (f : Int)) = (r : Int) := by
            rw [hr, show (i : Int) - (f : Int) = ((i - f : Nat) : Int) by omega]; omega
          have hk : f + r < l.length := by have := HM.out; omega
          obtain ⟨v, hv⟩ : ∃ v, l[f + r]? = some v := ⟨_, List.getElem?_eq_getElem hk⟩
          have c3 := HR.out.cell hv (j := 3) (u := .int .i64 v.nt) rfl
          have f3 := HR.out.froz ((f + r) * 4 + 3)
          have HV := Lib.hid (show l[fromGo l 0 0 + n % (l.length - fromGo l 0 0)]? = some v by rw [HF0.out, ← HM.out, ← hr]; exact hv)
          have HX := Lib.hid (show fromGo l 0 0 + n % (l.length - fromGo l 0 0) = f + r by rw [HF0.out, ← HM.out, ← hr])
          have hd : (1 : Int) ≤ (i : Int) - (f : Int) := by omega
          have hrI : (f : Int) + (r : Int) < (i : Int) := by omega
          clear hr hv hk
          go_wp2
          go_ret
          exact .inr ⟨v, HV.out, rfl, by rw [HX.out], rfl, by rw [HF0.out]; have := HM.out; omega⟩
        · have hfI : (i : Int) ≤ (f : Int) := by omega
          go_wp2
          go_ret
          exact .inl ⟨rfl, rfl, .inr (by rw [HF0.out]; have := HM.out; omega)⟩
/-- A slice as plain data. -/
structure Sl where
  A : Option Addr
  n : Nat
  c : Nat
def Sl.val (s : Sl) : Value := .slice s.A s.n s.c
def slc (s : Sl) : List Value := [s.val]
theorem slc_len (a : Sl) : (slc a).length = 1 := rfl
theorem slc_one (a : Sl) : ∀ u ∈ slc a, u.oneCell' = true := fun u hu => by
  obtain rfl : u = a.val := by simpa [slc] using hu
  rfl
theorem OL.base {α : Type} {cf : α → List Value} {sz : Nat} {w : World} {base base' : Nat} {e : TypeId} {v : Value} {l : List α} (h : OL cf sz w base e v l) (hb : base' ≤ base) : OL cf sz w base' e v l := by
  refine ⟨h.1, ?_⟩
  rcases h.2 with h2 | ⟨g, cap, cur, h1, h2, h3⟩
  · exact .inl h2
  · exact .inr ⟨g, cap, cur, h1, Nat.le_trans hb h2, h3⟩
/-- The headers ps and the rows of words ll. -/
def PRows (W : World) (ps : List Sl) (ll : List (List Wd)) : Prop := ps.length = ll.length ∧ ∀ (i : Nat) (s : Sl) (l : List Wd), ps[i]? = some s → ll[i]? = some l → ∃ g c, s = ⟨some ⟨g, 0, none⟩, l.length, c⟩ ∧ WRow W g l ∧ 1 ≤ l.length ∧ l.length ≤ 1000
def LaRel (ll : List (List Wd)) (k n : Nat) (s5 : Value) : Prop := ∃ i : Nat, k + 1 ≤ i ∧ i ≤ n + k + 1 ∧ (ll.drop (k + 1)).any hasNote = (ll.drop i).any hasNote ∧ s5 = .int .i64 i
def LiRel (l : List Wd) (n : Nat) (s6 : Value) : Prop := ∃ i : Nat, i ≤ n ∧ hasNote l = hasNote (l.drop i) ∧ s6 = .int .i64 i
set_option maxHeartbeats 4000000 in
set_option maxRecDepth 100000 in
theorem last_any (W : World) (A : Option Addr) (c : Nat) (ps : List Sl) (ll : List (List Wd)) (k : Nat) (hs : SL slc 1 W A ps.length ps) (hr : PRows W ps ll) (hn : ps.length ≤ 1000) (hk : k ≤ 1000) :
    Calls Tryz.prog 80 #[.slice A ps.length c, .int .i64 k] W (BoolIs ((ll.drop (k + 1)).any hasNote) W) := by
  have HS := Lib.hid hs
  have HR := Lib.hid hr
  clear hs hr
  obtain ⟨n, hnn⟩ : ∃ n, n = ps.length := ⟨_, rfl⟩
  rw [← hnn] at HS hn ⊢
  have HN := Lib.hid hnn
  clear hnn
  go_enter Tryz.func80, Tryz.ntmps80
  go_wp2
  go_loop [5] (fun s5 => LaRel ll k n s5) (fun s5 => toM (n + k + 1) s5)
  case atStart => exact ⟨k + 1, by omega, by omega, rfl, by simp⟩
  case round =>
    obtain ⟨i, h1, h2, hda, rfl⟩ := hrel
    have HDA := Lib.hid hda
    clear hda
    by_cases hin : i < n
    · have hinI : (i : Int) < (n : Int) := by omega
      obtain ⟨b, off, s, rfl, hb, hps, _, hcs⟩ := SL.at HS.out hin
      obtain ⟨l, hll⟩ : ∃ l, ll[i]? = some l := ⟨_, List.getElem?_eq_getElem (by have := HR.out.1; have := HN.out; omega)⟩
      obtain ⟨g, cc, rfl, hw, hl1, hl2⟩ := HR.out.2 i s l hps hll
      have HDL := Lib.hid (show (ll.drop i).any hasNote = (hasNote l || (ll.drop (i + 1)).any hasNote) by rw [dwl' ll hll]; rfl)
      have hc0 := hcs 0 (.slice (some ⟨g, 0, none⟩) l.length cc) rfl
      rw [Nat.mul_one, Nat.add_zero] at hc0
      have HW := Lib.hid hw
      obtain ⟨m, hm⟩ : ∃ m, m = l.length := ⟨_, rfl⟩
      rw [← hm] at hc0 hl2
      have HM := Lib.hid hm
      have hi5 : (i : Int) ≤ 5000 := by omega
      clear hcs hps hll hw hm
      go_wp2
      go_loop [6] (fun s6 => LiRel l m s6) (fun s6 => toM m s6)
      case atStart => exact ⟨0, by omega, rfl, rfl⟩
      case round =>
        obtain ⟨j, hj, hhn, rfl⟩ := hrel
        have HHN := Lib.hid hhn
        clear hhn
        by_cases hjm : j < m
        · have hjI : (j : Int) < (m : Int) := by omega
          obtain ⟨v, hv⟩ : ∃ v, l[j]? = some v := ⟨_, List.getElem?_eq_getElem (by have := HM.out; omega)⟩
          have c3 := HW.out.cell hv (j := 3) (u := .int .i64 v.nt) rfl
          have HHS := Lib.hid (show hasNote l = (decide (v.nt ≠ 0) || hasNote (l.drop (j + 1))) by rw [HHN.out, dwl' l hv]; rfl)
          clear hv
          by_cases hz : v.nt = 0
          · have gz : (v.nt != 0) = false := by rw [bne_eq_false_iff_eq]; exact hz
            have HZ := Lib.hid hz
            clear hz
            go_wp2
            exact ⟨⟨j + 1, by omega, by rw [HHS.out]; simp [HZ.out], rfl⟩, by simp only [toM]; omega⟩
          · have gz : (v.nt != 0) = true := by rw [bne_iff_ne]; exact hz
            have HZ := Lib.hid hz
            clear hz
            go_wp2
            go_ret
            exact ⟨by rw [HDA.out, HDL.out, HHS.out]; simp [HZ.out], rfl⟩
        · have hjI : ¬ (j : Int) < (m : Int) := by omega
          have HHE := Lib.hid (show hasNote l = false by rw [HHN.out, List.drop_of_length_le (by have := HM.out; omega)]; rfl)
          go_wp2
          exact ⟨⟨i + 1, by omega, by omega, by rw [HDA.out, HDL.out, HHE.out]; rfl, rfl⟩, by simp only [toM]; omega⟩
    · have hinI : ¬ (i : Int) < (n : Int) := by omega
      have HDE := Lib.hid (show (ll.drop (k + 1)).any hasNote = false by rw [HDA.out, List.drop_of_length_le (by have := HR.out.1; have := HN.out; omega)]; rfl)
      go_wp2
      go_ret
      exact ⟨by rw [HDE.out]; rfl, rfl⟩
end
section
open Go Go.RowKit

/-- A paragraph: its block, its capacity, its words. -/
structure Pq where
  g : Nat
  c : Nat
  l : List Wd
def Pq.sl (p : Pq) : Sl := ⟨some ⟨p.g, 0, none⟩, p.l.length, p.c⟩
def PqOk (W : World) (B : Nat) (p : Pq) : Prop := WRow W p.g p.l ∧ B ≤ p.g ∧ 1 ≤ p.l.length ∧ p.l.length ≤ 1000 ∧ p.l.length ≤ p.c ∧ ∀ v ∈ p.l, OkW v
/-- The headers lie in a row of the call's own, each paragraph in a block of its own. -/
def TR (W : World) (B : Nat) (v : Value) (pg : List Pq) : Prop := OL slc 1 W B 54 v (pg.map Pq.sl) ∧ ∀ p ∈ pg, PqOk W B p
def Feet (v : Value) (pg : List Pq) : List Nat := v.ownBlock.toList ++ pg.map Pq.g
theorem OL.lts {α : Type} {cf : α → List Value} {sz : Nat} {w : World} {B : Nat} {e : TypeId} {v : Value} {l : List α} (h : OL cf sz w B e v l) : ∀ k, v.ownBlock = some k → B ≤ k ∧ k < w.heap.size := World.ownsRow.lt h
theorem OL.keep {α : Type} {cf : α → List Value} {sz : Nat} {w w' : World} {B : Nat} {e : TypeId} {v : Value} {l : List α} (h : OL cf sz w B e v l) (hk : ∀ k, v.ownBlock = some k → w'.heap[k]? = w.heap[k]?) : OL cf sz w' B e v l := by
  refine ⟨h.1, ?_⟩
  rcases h.2 with h2 | ⟨g, cap, cur, h1, h2, h3, h4⟩
  · exact .inl h2
  · exact .inr ⟨g, cap, cur, h1, h2, by rw [hk g (by rw [h1]; rfl)]; exact h3, h4⟩
theorem TR.lts {W : World} {B : Nat} {v : Value} {pg : List Pq} (h : TR W B v pg) : ∀ k ∈ Feet v pg, B ≤ k ∧ k < W.heap.size := by
  intro k hk
  rcases List.mem_append.1 hk with hk | hk
  · exact OL.lts h.1 k (by simpa using hk)
  · obtain ⟨p, hp, rfl⟩ := List.mem_map.1 hk
    exact ⟨(h.2 p hp).2.1, (h.2 p hp).1.lt⟩
theorem TR.keep {W W' : World} {B : Nat} {v : Value} {pg : List Pq} (h : TR W B v pg) (hk : ∀ k ∈ Feet v pg, W'.heap[k]? = W.heap[k]?) : TR W' B v pg := by
  refine ⟨OL.keep h.1 (fun k e => hk k (List.mem_append_left _ (by simpa using e))), fun p hp => ?_⟩
  obtain ⟨a, b⟩ := h.2 p hp
  exact ⟨a.same (hk p.g (List.mem_append_right _ (List.mem_map_of_mem hp))), b⟩
theorem TR.ext {W W' : World} {B : Nat} {v : Value} {pg : List Pq} (h : TR W B v pg) (hx : Ext W W') : TR W' B v pg := h.keep (fun k hk => hx.block k (h.lts k hk).2)
theorem TR.nil (W : World) (B : Nat) : TR W B (.slice none 0 0) [] := ⟨OL.nil W B 54, fun p hp => by cases hp⟩
theorem TR.rows {W : World} {B : Nat} {v : Value} {pg : List Pq} (h : TR W B v pg) : PRows W (pg.map Pq.sl) (pg.map Pq.l) := by
  refine ⟨by simp, fun i s l hs hl => ?_⟩
  rw [List.getElem?_map] at hs hl
  obtain ⟨p, hp, rfl⟩ := Option.map_eq_some_iff.1 hs
  obtain ⟨q, hq, rfl⟩ := Option.map_eq_some_iff.1 hl
  obtain rfl : p = q := Option.some.inj (hp.symm.trans hq)
  obtain ⟨a, _, b, c, _⟩ := h.2 p (List.mem_of_getElem? hp)
  exact ⟨p.g, p.c, rfl, a, b, c⟩
/-- Two rows of rows, all of whose blocks differ. -/
def TXs (W : World) (B : Nat) (v : Value) (pg : List Pq) (v' : Value) (pn : List Pq) : Prop := TR W B v pg ∧ TR W B v' pn ∧ (Feet v pg ++ Feet v' pn).Nodup
theorem TXs.symm {W : World} {B : Nat} {v v' : Value} {pg pn : List Pq} (h : TXs W B v pg v' pn) : TXs W B v' pn v pg := ⟨h.2.1, h.1, (List.perm_append_comm.nodup_iff).1 h.2.2⟩
theorem TXs.keep {W W' : World} {B : Nat} {v v' : Value} {pg pn : List Pq} (h : TXs W B v pg v' pn) (hk : ∀ k, B ≤ k → k < W.heap.size → W'.heap[k]? = W.heap[k]?) : TXs W' B v pg v' pn :=
  ⟨h.1.keep (fun k e => hk k (h.1.lts k e).1 (h.1.lts k e).2), h.2.1.keep (fun k e => hk k (h.2.1.lts k e).1 (h.2.1.lts k e).2), h.2.2⟩
theorem TXs.ext {W W' : World} {B : Nat} {v v' : Value} {pg pn : List Pq} (h : TXs W B v pg v' pn) (hx : Ext W W') : TXs W' B v pg v' pn := h.keep (fun k _ hk => hx.block k hk)
theorem TXs.nil (W : World) (B : Nat) : TXs W B (.slice none 0 0) [] (.slice none 0 0) [] := ⟨TR.nil W B, TR.nil W B, by simp [Feet, Value.ownBlock]⟩
theorem TR.at {W : World} {B : Nat} {v : Value} {pg : List Pq} (h : TR W B v pg) {i : Nat} (hi : i < pg.length) : ∃ b cap p, v = .slice (some ⟨b, 0, none⟩) pg.length cap ∧ v.ownBlock = some b ∧ pg[i]? = some p ∧ PqOk W B p ∧ W.cell? ⟨b, i, none⟩ = some (.slice (some ⟨p.g, 0, none⟩) p.l.length p.c) := by
  obtain ⟨A, c, e, _, hh⟩ := own_form h.1
  rw [List.length_map] at e
  obtain ⟨p, hp⟩ : ∃ p, pg[i]? = some p := ⟨_, List.getElem?_eq_getElem hi⟩
  rcases hh with ⟨_, hn, _⟩ | ⟨g, rfl, _, _, hc⟩
  · rw [List.length_map] at hn; omega
  · refine ⟨g, c, p, e, by rw [e]; rfl, hp, h.2 p (List.mem_of_getElem? hp), hc i _ ?_⟩
    have := gcells_at slc_len (pg.map Pq.sl) i p.sl (by rw [List.getElem?_map, hp]; rfl) 0 (by omega)
    rw [Nat.mul_one, Nat.add_zero] at this
    rw [this]; rfl
theorem WRow.own {W : World} {B : Nat} {A : Option Addr} {c : Nat} {l : List Wd} (h : OL wcf 4 W B 60 (.slice A l.length c) l) (h1 : 1 ≤ l.length) : ∃ g, A = some ⟨g, 0, none⟩ ∧ B ≤ g ∧ g < W.heap.size ∧ WRow W g l := by
  rcases h.2 with ⟨_, h2⟩ | ⟨g, cap, cur, e, hb, hg, hn, _, _, ht⟩
  · omega
  · simp only [Value.slice.injEq] at e
    refine ⟨g, e.1, hb, lt_of_block hg, cur, 60, hg, fun k v hk j u hu => ?_⟩
    have hj : j < 4 := by have := (List.getElem?_eq_some_iff.1 hu).1; simpa [wcf] using this
    have h2 := (gcells_at wcf_len l k v hk j hj).trans hu
    rw [← ht] at h2
    rw [List.getElem?_take] at h2
    split at h2
    · simpa using h2
    · cases h2
/-- append of a fresh paragraph to the first row. -/
theorem TXs.append {W0 X : World} {B : Nat} {v v' : Value} {pg pn : List Pq} (h : TXs W0 B v pg v' pn) (p : Pq) (b : Nat) (hx : Ext W0 X) (hg : W0.heap.size ≤ p.g) (hp : WRow X p.g p.l) (h1 : 1 ≤ p.l.length) (h2 : p.l.length ≤ 1000) (h3 : p.l.length ≤ p.c ∧ ∀ v ∈ p.l, OkW v) (hb : b = X.heap.size)
    (hm : pg.length ≤ 10000) (hB : B ≤ W0.heap.size) :
    ∃ A' c' w', (Builtin.append_ #[51, 51] 51 #[v, .slice (some ⟨b, 0, none⟩) 1 1]).run Tryz.prog (X.alloc (.cells #[.slice (some ⟨p.g, 0, none⟩) p.l.length p.c] 54)) = .ok (.slice A' (pg.length + 1) c') w' ∧
      TXs w' B (.slice A' (pg.length + 1) c') (pg ++ [p]) v' pn ∧ Below B X w' := by
  subst hb
  obtain ⟨Y, hY⟩ : ∃ Y, Y = X.alloc (.cells #[.slice (some ⟨p.g, 0, none⟩) p.l.length p.c] 54) := ⟨_, rfl⟩
  have hXY : Ext X Y := by rw [hY]; exact (Ext.refl X).alloc _
  have hYs : Y.heap.size = X.heap.size + 1 := by rw [hY]; simp
  have hpl := hp.lt
  have hso := SL.one (cf := slc) (sz := 1) X p.sl #[.slice (some ⟨p.g, 0, none⟩) p.l.length p.c] rfl 54
  rw [← hY] at hso ⊢
  have hY2 := h.ext (hx.trans hXY)
  obtain ⟨_, hs⟩ := hso
  obtain ⟨A', c', w', r1, r2, r3, r4, r5⟩ := run_append_src5 (P := Tryz.prog) (t := 51) (e := 54) (size := 1) (bytes := 24) (base := B) Tryz.underlying51 info54 rfl (by omega) hY2.1.1 (A := some ⟨X.heap.size, 0, none⟩) (m := 1) (c := 1) (news := gcells slc [p.sl]) (gcells_len slc_len [p.sl])
    (fun _ => ⟨X.heap.size, 0, rfl, fun j u hu => by
      obtain ⟨b, off, e, _, hc⟩ := hs (by omega)
      simp only [Option.some.injEq, Addr.mk.injEq] at e
      obtain ⟨rfl, rfl, _⟩ := e
      obtain rfl : j = 0 := by
        have := (List.getElem?_eq_some_iff.1 hu).1
        simp [gcells, slc] at this; exact this
      have := hc 0 p.sl rfl 0 u (by simpa [gcells] using hu)
      simpa using this⟩)
    (gcells_one slc_one [p.sl]) (by simp [maxLen]; omega) (by simp; omega) (by omega)
  rw [List.length_map] at r1 r2 r5
  have hsz : Y.heap.size ≤ w'.heap.size := (r3 B (Nat.le_refl _)).size
  have hkeep : ∀ k, k < Y.heap.size → v.ownBlock ≠ some k → w'.heap[k]? = Y.heap[k]? := fun k hk hne => r4 k hk (fun a e => hne (by rw [e]; rfl))
  have hnd := hY2.2.2
  have hl1 := hx.lt
  have hlt1 : ∀ k ∈ Feet v pg, B ≤ k ∧ k < W0.heap.size := h.1.lts
  have hlt2 : ∀ k ∈ Feet v' pn, B ≤ k ∧ k < W0.heap.size := h.2.1.lts
  refine ⟨A', c', w', r1, ⟨⟨?_, fun q hq => ?_⟩, hY2.2.1.keep (fun k hk => hkeep k (by have := hlt2 k hk; omega) (fun e => ?_)), ?_⟩, ?_⟩
  · unfold OL
    rw [List.map_append, List.length_append, gcells_append, List.length_map]
    exact r2
  · rcases List.mem_append.1 hq with hq | hq
    · obtain ⟨a, bb⟩ := hY2.1.2 q hq
      refine ⟨a.same (hkeep q.g a.lt (fun e => ?_)), bb⟩
      have := (List.nodup_append.1 (List.nodup_append.1 hnd).1).2.2 q.g (by rw [e]; simp) q.g (List.mem_map_of_mem hq)
      exact this rfl
    · obtain rfl : q = p := by simpa using hq
      refine ⟨(hp.ext hXY).same (hkeep q.g (by omega) (fun e => ?_)), by omega, h1, h2, h3⟩
      have := OL.lts h.1.1 q.g e
      omega
  · exact (List.nodup_append.1 hnd).2.2 k (List.mem_append_left _ (by rw [e]; simp)) k hk rfl
  · have hin : ∀ k ∈ pg.map Pq.g ++ Feet v' pn, k < W0.heap.size := fun k hk => by
      rcases List.mem_append.1 hk with hk | hk
      · exact (hlt1 k (List.mem_append_right _ hk)).2
      · exact (hlt2 k hk).2
    have hsub : (pg.map Pq.g ++ Feet v' pn).Nodup := by
      simp only [Feet] at hnd ⊢
      rw [List.append_assoc] at hnd
      exact (List.nodup_append.1 hnd).2.1
    have hperm : (pg.map Pq.g ++ [p.g] ++ Feet v' pn).Perm (p.g :: (pg.map Pq.g ++ Feet v' pn)) := by
      rw [List.append_assoc]; exact List.perm_middle
    have hnew : (pg.map Pq.g ++ [p.g] ++ Feet v' pn).Nodup := hperm.nodup_iff.2 (List.nodup_cons.2 ⟨fun e => by have := hin _ e; omega, hsub⟩)
    have e2 : Feet (.slice A' (pg.length + 1) c') (pg ++ [p]) ++ Feet v' pn = (Value.slice A' (pg.length + 1) c').ownBlock.toList ++ (pg.map Pq.g ++ [p.g] ++ Feet v' pn) := by simp [Feet]
    rw [e2]
    rcases r5 with e | e
    · rw [e]
      rcases ho : v.ownBlock with _ | k0
      · simpa using hnew
      · refine List.nodup_cons.2 ⟨fun hm2 => ?_, hnew⟩
        have hk0 := hlt1 k0 (by simp [Feet, ho])
        rcases List.mem_cons.1 (hperm.mem_iff.1 hm2) with h3 | h3
        · omega
        · simp only [Feet, ho] at hnd
          rw [List.append_assoc] at hnd
          exact (List.nodup_append.1 hnd).2.2 k0 (by simp) k0 h3 rfl
    · rw [e]
      refine List.nodup_cons.2 ⟨fun hm2 => ?_, hnew⟩
      rcases List.mem_cons.1 (hperm.mem_iff.1 hm2) with h3 | h3
      · omega
      · have := hin _ h3; omega
  · exact Below.trans (Below.mono hXY (by omega)) (r3 B (Nat.le_refl _))
/-- A store into a word of the first row's paragraph i. -/
theorem TXs.set {W : World} {B : Nat} {v v' : Value} {pg pn : List Pq} (h : TXs W B v pg v' pn) {i : Nat} {p : Pq} (hi : pg[i]? = some p) {k : Nat} {x x' : Wd} (hk : p.l[k]? = some x) {j : Nat} {u : Value} (hj : j < 4) (hv : wcf x' = (wcf x).set j u) (hz : OkW x') :
    TXs (W.setCell ⟨p.g, k * 4 + j, none⟩ u) B v (pg.set i { p with l := p.l.set k x' }) v' pn := by
  obtain ⟨h1, h2, h3⟩ := h
  have hmem := List.mem_of_getElem? hi
  have hil := (List.getElem?_eq_some_iff.1 hi).1
  have eg : (pg.set i { p with l := p.l.set k x' }).map Pq.g = pg.map Pq.g := by
    rw [List.map_set]
    apply List.ext_getElem?
    intro n
    rw [List.getElem?_set]
    split
    · next hn => subst hn; rw [if_pos (by simpa using hil), List.getElem?_map, hi]; rfl
    · rfl
  have es : (pg.set i { p with l := p.l.set k x' }).map Pq.sl = pg.map Pq.sl := by
    rw [List.map_set]
    apply List.ext_getElem?
    intro n
    rw [List.getElem?_set]
    split
    · next hn => subst hn; rw [if_pos (by simpa using hil), List.getElem?_map, hi]; simp [Pq.sl]
    · rfl
  have hn1 := List.nodup_append.1 h3
  have hn2 := List.nodup_append.1 hn1.1
  have ho : OL slc 1 (W.setCell ⟨p.g, k * 4 + j, none⟩ u) B 54 v (pg.map Pq.sl) := by
    refine OL.keep h1.1 (fun q e => heap_set_other _ _ _ _ (fun e2 => ?_))
    simp only at e2
    exact hn2.2.2 q (by rw [e]; simp) q (by rw [← e2]; exact List.mem_map_of_mem hmem) rfl
  refine ⟨⟨by rw [es]; exact ho, fun q hq => ?_⟩, h2.keep (fun q hq => heap_set_other _ _ _ _ (fun e2 => ?_)), by simpa only [Feet, eg] using h3⟩
  · obtain ⟨n, hn⟩ := List.getElem?_of_mem hq
    rw [List.getElem?_set] at hn
    split at hn
    · obtain rfl := Option.some.inj hn
      obtain ⟨a, b1, b2, b3, b4⟩ := h1.2 p hmem
      refine ⟨a.set hk hj hv, b1, by simpa using b2, by simpa using b3, by simpa using b4.1, fun v hv2 => ?_⟩
      rcases List.mem_or_eq_of_mem_set hv2 with h9 | rfl
      · exact b4.2 v h9
      · exact hz
    · next hne =>
      have hqm := List.mem_of_getElem? hn
      obtain ⟨a, b⟩ := h1.2 q hqm
      refine ⟨a.same (heap_set_other _ _ _ _ (fun e2 => ?_)), b⟩
      simp only at e2
      have hnl := (List.getElem?_eq_some_iff.1 hn).1
      have hpw := List.pairwise_iff_getElem.1 hn2.2.1
      have e3 : (pg.map Pq.g)[i]'(by simpa using hil) = (pg.map Pq.g)[n]'(by simpa using hnl) := by
        simp only [List.getElem_map]
        rw [(List.getElem?_eq_some_iff.1 hi).2, (List.getElem?_eq_some_iff.1 hn).2]; exact e2
      rcases Nat.lt_or_gt_of_ne hne with h | h
      · exact hpw i n (by simpa using hil) (by simpa using hnl) h e3
      · exact hpw n i (by simpa using hnl) (by simpa using hil) h e3.symm
  · simp only at e2
    exact hn1.2.2 p.g (List.mem_append_right _ (List.mem_map_of_mem hmem)) p.g (by rw [e2]; exact hq) rfl
end
end Go.Proofs.YtdbnddmncbjobaaGreatDoor