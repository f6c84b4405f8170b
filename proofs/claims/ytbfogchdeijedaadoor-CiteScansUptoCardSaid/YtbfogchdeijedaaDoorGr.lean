/- Rows of words by their blocks; the contracts of refer and last. -/
import Derived.Test.YtbfogchdeijedaaDoorGp
namespace Go.Proofs.YtbfogchdeijedaaDoor
open Go Go.RowKit

/-- The block g holds the words l, and is not frozen. -/
def WRow (W : World) (g : Nat) (l : List Wd) : Prop := ∃ cs t, W.heap[g]? = some (.cells cs t (0, 0)) ∧ ∀ (k : Nat) (v : Wd), l[k]? = some v → ∀ j u, (wcf v)[j]? = some u → cs[k * 4 + j]? = some u
theorem WRow.same {W W' : World} {g : Nat} {l : List Wd} (h : WRow W g l) (he : W'.heap[g]? = W.heap[g]?) : WRow W' g l := by
  obtain ⟨cs, t, h1, h2⟩ := h
  exact ⟨cs, t, he.trans h1, h2⟩
theorem WRow.lt {W : World} {g : Nat} {l : List Wd} (h : WRow W g l) : g < W.heap.size := by
  obtain ⟨cs, t, h1, _⟩ := h
  exact lt_of_block h1
theorem WRow.ext {W W' : World} {g : Nat} {l : List Wd} (h : WRow W g l) (hx : Ext W W') : WRow W' g l := h.same (hx.block g h.lt)
theorem WRow.cell {W : World} {g : Nat} {l : List Wd} (h : WRow W g l) {k : Nat} {v : Wd} (hk : l[k]? = some v) {j : Nat} {u : Value} (hu : (wcf v)[j]? = some u) : W.cell? ⟨g, k * 4 + j, none⟩ = some u := by
  obtain ⟨cs, t, h1, h2⟩ := h
  rw [cell_of_row W g _ cs t (0, 0) h1]; exact h2 k v hk j u hu
theorem WRow.froz {W : World} {g : Nat} {l : List Wd} (h : WRow W g l) (i : Nat) : W.frozen? ⟨g, i, none⟩ = false := by
  obtain ⟨cs, t, h1, _⟩ := h
  exact frozen_of_row W g i cs t h1
theorem heap_set_other (W : World) (p : Addr) (u : Value) (k : Nat) (h : p.block ≠ k) : (W.setCell p u).heap[k]? = W.heap[k]? := by
  simp [World.setCell, Array.getElem?_modify, h]
theorem WRow.set {W : World} {g : Nat} {l : List Wd} (h : WRow W g l) {k : Nat} {v v' : Wd} (hk : l[k]? = some v) {j : Nat} {u : Value} (hj : j < 4) (hv : wcf v' = (wcf v).set j u) : WRow (W.setCell ⟨g, k * 4 + j, none⟩ u) g (l.set k v') := by
  have h0 := h
  obtain ⟨cs, t, h1, h2⟩ := h
  refine ⟨cs.setIfInBounds (k * 4 + j) u, t, ?_, fun i x hi j' u' hu' => ?_⟩
  · simp [World.setCell, Array.getElem?_modify, h1]
  · have hkl : k < l.length := (List.getElem?_eq_some_iff.1 hk).1
    have hj4 : j' < 4 := by have := (List.getElem?_eq_some_iff.1 hu').1; simpa [wcf] using this
    by_cases hik : i = k
    · subst hik
      rw [List.getElem?_set_self hkl] at hi
      obtain rfl := Option.some.inj hi
      rw [hv, List.getElem?_set] at hu'
      by_cases hjj : j = j'
      · subst hjj
        rw [if_pos rfl, if_pos (by simp [wcf]; exact hj)] at hu'
        rw [Array.getElem?_setIfInBounds, if_pos rfl]
        have hc : cs[i * 4 + j]?.isSome = true := by
          have : ∃ a, (wcf v)[j]? = some a := ⟨_, List.getElem?_eq_getElem (by simp [wcf]; exact hj)⟩
          obtain ⟨a, ha⟩ := this
          rw [h2 i v hk j a ha]; rfl
        have hlt : i * 4 + j < cs.size := by
          rcases Nat.lt_or_ge (i * 4 + j) cs.size with h | h
          · exact h
          · rw [Array.getElem?_eq_none h] at hc; cases hc
        rw [if_pos hlt]; exact hu'
      · rw [if_neg hjj] at hu'
        rw [Array.getElem?_setIfInBounds, if_neg (by omega)]
        exact h2 i v hk j' u' hu'
    · rw [List.getElem?_set_ne (fun e => hik e.symm)] at hi
      rw [Array.getElem?_setIfInBounds, if_neg (by omega)]
      exact h2 i x hi j' u' hu'
def BoolSome (w : World) (e : Ending) (w' : World) : Prop := ∃ b : Bool, e = .returned (.bool b) ∧ w' = w
/-- refer's answer: some bool; at most one Note cell of the row is written. -/
def RefPost (W : World) (g : Nat) (l : List Wd) (note : Int) (e : Ending) (W' : World) : Prop :=
  (∃ b : Bool, e = .returned (.bool b) ∧ W' = W) ∨ ∃ k v, l[k]? = some v ∧ e = .returned (.bool true) ∧ W' = W.setCell ⟨g, k * 4 + 3, none⟩ (.int .i64 note)
def RfRel (n : Nat) (s9 s10 : Value) : Prop := ∃ f i : Nat, f ≤ n ∧ i ≤ n ∧ s9 = .int .i64 f ∧ s10 = .int .i64 i
set_option maxHeartbeats 4000000 in
set_option maxRecDepth 100000 in
theorem refer_any (W : World) (g c : Nat) (l : List Wd) (n : Nat) (note : Int) (later : Bool) (h : WRow W g l) (hl : l.length ≤ 1000) (hn : n ≤ 1000000) :
    Calls Tryd.prog 35 #[.slice (some ⟨g, 0, none⟩) l.length c, .int .i64 n, .int .i64 note, .bool later] W (RefPost W g l note) := by
  have HR := Lib.hid h
  clear h
  obtain ⟨m, hm⟩ : ∃ m, m = l.length := ⟨_, rfl⟩
  rw [← hm] at hl ⊢
  have HM := Lib.hid hm
  clear hm
  go_enter Tryd.func35, Tryd.ntmps35
  go_wp2
  go_loop [9, 10] (fun s9 s10 => RfRel m s9 s10) (fun _ s10 => toM m s10)
  case atStart => exact ⟨0, 0, by omega, by omega, rfl, rfl⟩
  case round =>
    obtain ⟨f, i, hf, hi, rfl, rfl⟩ := hrel
    by_cases him : i < m
    · have himI : (i : Int) < (m : Int) := by omega
      obtain ⟨v, hv⟩ : ∃ v, l[i]? = some v := ⟨_, List.getElem?_eq_getElem (by have := HM.out; omega)⟩
      have c3 := HR.out.cell hv (j := 3) (u := .int .i64 v.nt) rfl
      clear hv
      by_cases hz : v.nt = 0
      · have gz : (v.nt != 0) = false := by rw [bne_eq_false_iff_eq]; exact hz
        clear hz
        go_wp2
        exact ⟨⟨f, i + 1, hf, by omega, rfl, rfl⟩, by simp only [toM]; omega⟩
      · have gz : (v.nt != 0) = true := by rw [bne_iff_ne]; exact hz
        clear hz
        go_wp2
        exact ⟨⟨i + 1, i + 1, by omega, by omega, rfl, rfl⟩, by simp only [toM]; omega⟩
    · obtain rfl : i = m := by omega
      have hni : ¬ ((i : Int) < (i : Int)) := by omega
      cases later with
      | true =>
        go_wp2
        go_ret
        exact .inl ⟨false, rfl, rfl⟩
      | false =>
        by_cases hfm : f < i
        · have hfI : ¬ (i : Int) ≤ (f : Int) := by omega
          obtain ⟨r, hr⟩ : ∃ r, r = n % (i - f) := ⟨_, rfl⟩
          have hrl : r < i - f := by rw [hr]; exact Nat.mod_lt _ (by omega)
          have e1 : (n : Int) % ((i : Int) - (f : Int)) = (r : Int) := by
            rw [hr, show (i : Int) - (f : Int) = ((i - f : Nat) : Int) by omega]; omega
          have hk : f + r < l.length := by have := HM.out; omega
          obtain ⟨v, hv⟩ : ∃ v, l[f + r]? = some v := ⟨_, List.getElem?_eq_getElem hk⟩
          have c3 := HR.out.cell hv (j := 3) (u := .int .i64 v.nt) rfl
          have f3 := HR.out.froz ((f + r) * 4 + 3)
          have HV := Lib.hid hv
          have hd : (1 : Int) ≤ (i : Int) - (f : Int) := by omega
          have hrI : (f : Int) + (r : Int) < (i : Int) := by omega
          clear hr hv hk
          go_wp2
          go_ret
          exact .inr ⟨f + r, v, HV.out, rfl, rfl⟩
        · have hfI : (i : Int) ≤ (f : Int) := by omega
          go_wp2
          go_ret
          exact .inl ⟨false, rfl, rfl⟩
/-- The headers ps and the rows of words ll. -/
def PRows (W : World) (ps : List Sl) (ll : List (List Wd)) : Prop := ps.length = ll.length ∧ ∀ (i : Nat) (s : Sl) (l : List Wd), ps[i]? = some s → ll[i]? = some l → ∃ g c, s = ⟨some ⟨g, 0, none⟩, l.length, c⟩ ∧ WRow W g l ∧ 1 ≤ l.length ∧ l.length ≤ 1000
def LaRel (k n : Nat) (s5 : Value) : Prop := ∃ i : Nat, k + 1 ≤ i ∧ i ≤ n + k + 1 ∧ s5 = .int .i64 i
def LiRel (n : Nat) (s6 : Value) : Prop := ∃ i : Nat, i ≤ n ∧ s6 = .int .i64 i
set_option maxHeartbeats 4000000 in
set_option maxRecDepth 100000 in
theorem last_any (W : World) (A : Option Addr) (c : Nat) (ps : List Sl) (ll : List (List Wd)) (k : Nat) (hs : SL slc 1 W A ps.length ps) (hr : PRows W ps ll) (hn : ps.length ≤ 1000) (hk : k ≤ 1000) :
    Calls Tryd.prog 36 #[.slice A ps.length c, .int .i64 k] W (BoolSome W) := by
  have HS := Lib.hid hs
  have HR := Lib.hid hr
  clear hs hr
  obtain ⟨n, hnn⟩ : ∃ n, n = ps.length := ⟨_, rfl⟩
  rw [← hnn] at HS hn ⊢
  have HN := Lib.hid hnn
  clear hnn
  go_enter Tryd.func36, Tryd.ntmps36
  go_wp2
  go_loop [5] (fun s5 => LaRel k n s5) (fun s5 => toM (n + k + 1) s5)
  case atStart => exact ⟨k + 1, by omega, by omega, by simp⟩
  case round =>
    obtain ⟨i, h1, h2, rfl⟩ := hrel
    by_cases hin : i < n
    · have hinI : (i : Int) < (n : Int) := by omega
      obtain ⟨b, off, s, rfl, hb, hps, _, hcs⟩ := SL.at HS.out hin
      obtain ⟨l, hll⟩ : ∃ l, ll[i]? = some l := ⟨_, List.getElem?_eq_getElem (by have := HR.out.1; have := HN.out; omega)⟩
      obtain ⟨g, cc, rfl, hw, hl1, hl2⟩ := HR.out.2 i s l hps hll
      have hc0 := hcs 0 (.slice (some ⟨g, 0, none⟩) l.length cc) rfl
      rw [Nat.mul_one, Nat.add_zero] at hc0
      have HW := Lib.hid hw
      obtain ⟨m, hm⟩ : ∃ m, m = l.length := ⟨_, rfl⟩
      rw [← hm] at hc0 hl2
      have HM := Lib.hid hm
      have hi5 : (i : Int) ≤ 5000 := by omega
      clear hcs hps hll hw hm
      go_wp2
      go_loop [6] (fun s6 => LiRel m s6) (fun s6 => toM m s6)
      case atStart => exact ⟨0, by omega, rfl⟩
      case round =>
        obtain ⟨j, hj, rfl⟩ := hrel
        by_cases hjm : j < m
        · have hjI : (j : Int) < (m : Int) := by omega
          obtain ⟨v, hv⟩ : ∃ v, l[j]? = some v := ⟨_, List.getElem?_eq_getElem (by have := HM.out; omega)⟩
          have c3 := HW.out.cell hv (j := 3) (u := .int .i64 v.nt) rfl
          clear hv
          by_cases hz : v.nt = 0
          · have gz : (v.nt != 0) = false := by rw [bne_eq_false_iff_eq]; exact hz
            clear hz
            go_wp2
            exact ⟨⟨j + 1, by omega, rfl⟩, by simp only [toM]; omega⟩
          · have gz : (v.nt != 0) = true := by rw [bne_iff_ne]; exact hz
            clear hz
            go_wp2
            go_ret
            exact ⟨true, rfl, rfl⟩
        · have hjI : ¬ (j : Int) < (m : Int) := by omega
          go_wp2
          exact ⟨⟨i + 1, by omega, by omega, rfl⟩, by simp only [toM]; omega⟩
    · have hinI : ¬ (i : Int) < (n : Int) := by omega
      go_wp2
      go_ret
      exact ⟨false, rfl, rfl⟩
end Go.Proofs.YtbfogchdeijedaaDoor
