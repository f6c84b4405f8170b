/- slices.Compact of places, plain. -/
import Derived.Test.YtdbnddmncbjobaaGreatDoorQbf
import Derived.Lib.SliceRun
namespace Go.Proofs.YtdbnddmncbjobaaGreatDoor
section

theorem ded_snoc : ∀ (l : List Ct) (a b : Ct), dedP (l ++ [a, b]) = if a = b then dedP (l ++ [a]) else dedP (l ++ [a]) ++ [b]
  | [], a, b => by
    by_cases h : a = b
    · simp [dedP, h]
    · simp [dedP, h]
  | x :: l, a, b => by
    have ih := ded_snoc l a b
    have hne : dedP (l ++ [a]) ≠ [] := ded_ne (by simp)
    obtain ⟨y, s, hy⟩ := List.exists_cons_of_ne_nil hne
    by_cases h : a = b
    · rw [if_pos h] at ih ⊢
      rw [List.cons_append, List.cons_append]
      unfold dedP
      rw [ih]
    · rw [if_neg h] at ih ⊢
      rw [List.cons_append, List.cons_append]
      unfold dedP
      rw [ih, hy]
      simp only [List.cons_append]
      split <;> rfl
theorem take_two {xs : List Ct} {i : Nat} {a b : Ct} (ha : xs[i]? = some a) (hb : xs[i + 1]? = some b) : xs.take (i + 2) = xs.take i ++ [a, b] ∧ xs.take (i + 1) = xs.take i ++ [a] := by
  have e1 : xs.take (i + 1) = xs.take i ++ [a] := by rw [List.take_add_one, ha]; rfl
  refine ⟨?_, e1⟩
  rw [show i + 2 = (i + 1) + 1 from rfl, List.take_add_one, hb, e1]
  simp
theorem ded_step_same {xs : List Ct} {i : Nat} {a : Ct} (ha : xs[i]? = some a) (hb : xs[i + 1]? = some a) : dedP (xs.take (i + 2)) = dedP (xs.take (i + 1)) := by
  obtain ⟨e2, e1⟩ := take_two ha hb
  rw [e2, e1, ded_snoc, if_pos rfl]
theorem ded_step_new {xs : List Ct} {i : Nat} {a b : Ct} (ha : xs[i]? = some a) (hb : xs[i + 1]? = some b) (h : a ≠ b) : dedP (xs.take (i + 2)) = dedP (xs.take (i + 1)) ++ [b] := by
  obtain ⟨e2, e1⟩ := take_two ha hb
  rw [e2, e1, ded_snoc, if_neg h]
/-- So far the places before k are different from their neighbours. -/
def Pfx (xs : List Ct) (k : Nat) : Prop := dedP (xs.take k) = xs.take k
theorem Pfx.one (xs : List Ct) : Pfx xs 1 := by
  unfold Pfx
  cases xs with
  | nil => rfl
  | cons x xs => simp [dedP]
theorem Pfx.next {xs : List Ct} {k : Nat} {a b : Ct} (h : Pfx xs (k + 1)) (ha : xs[k]? = some a) (hb : xs[k + 1]? = some b) (hne : a ≠ b) : Pfx xs (k + 2) := by
  unfold Pfx at *
  rw [ded_step_new ha hb hne, h]
  obtain ⟨e2, e1⟩ := take_two ha hb
  rw [e2, e1]
  simp
/-- A place has come twice: i of the places are done, k of them stand in the row R. -/
structure CmI (xs : List Ct) (i k : Nat) (R : List Ct) : Prop where
  len : R.length = xs.length
  lt : k + 1 ≤ i
  out : R.take k = dedP (xs.take i)
  rest : ∀ j, i ≤ j + 1 → R[j]? = xs[j]?
theorem CmI.start {xs : List Ct} {k : Nat} {a : Ct} (h : Pfx xs (k + 1)) (ha : xs[k]? = some a) (hb : xs[k + 1]? = some a) : CmI xs (k + 2) (k + 1) xs :=
  ⟨rfl, Nat.le_refl _, by rw [ded_step_same ha hb]; exact h.symm, fun _ _ => rfl⟩
theorem CmI.same {xs R : List Ct} {i k : Nat} {a : Ct} (h : CmI xs (i + 1) k R) (ha : xs[i]? = some a) (hb : xs[i + 1]? = some a) : CmI xs (i + 2) k R :=
  ⟨h.len, Nat.le_succ_of_le h.lt, by rw [ded_step_same ha hb]; exact h.out, fun j hj => h.rest j (by omega)⟩
theorem CmI.new {xs R : List Ct} {i k : Nat} {a b : Ct} (h : CmI xs (i + 1) k R) (ha : xs[i]? = some a) (hb : xs[i + 1]? = some b) (hne : a ≠ b) : CmI xs (i + 2) (k + 1) (R.set k b) := by
  have hi := (List.getElem?_eq_some_iff.1 hb).1
  have hk := h.lt
  have hl := h.len
  refine ⟨by rw [List.length_set]; exact h.len, by omega, ?_, fun j hj => ?_⟩
  · rw [ded_step_new ha hb hne, ← h.out, List.take_add_one, List.take_set_of_le (Nat.le_refl k), List.getElem?_set_self (by omega)]
    rfl
  · rw [List.getElem?_set_ne (by omega)]
    exact h.rest j (by omega)
theorem CmI.fin {xs R : List Ct} {i k : Nat} (h : CmI xs i k R) (hi : xs.length ≤ i) : R.take k = dedP xs := by rw [h.out, List.take_of_length_le hi]
end
section
open Go Go.RowKit

theorem setCells_block (g : Nat) : ∀ (vs : List Value) (o : Nat) (W : World) (cur : Array Value) (e : TypeId), W.heap[g]? = some (.cells cur e (0, 0)) →
    ∃ cur', (W.setCells g o vs).heap[g]? = some (.cells cur' e (0, 0)) ∧ cur'.size = cur.size ∧ (∀ j, j < o → cur'[j]? = cur[j]?) ∧ W.grownBy (W.setCells g o vs) (some g)
  | [], o, W, cur, e, h => ⟨cur, h, rfl, fun _ _ => rfl, ⟨rfl, rfl, rfl, Nat.le_refl _, fun _ _ _ => rfl⟩⟩
  | v :: vs, o, W, cur, e, h => by
    have h1 := heap_setCell_same W g o cur e v h
    obtain ⟨cur', k1, k2, k3, k4⟩ := setCells_block g vs (o + 1) (W.setCell ⟨g, o, none⟩ v) _ e h1
    refine ⟨cur', k1, by rw [k2]; simp, fun j hj => ?_, ⟨k4.os, k4.tape, k4.output, by have := k4.size; rwa [World.size_setCell] at this, fun j hj hne => ?_⟩⟩
    · rw [k3 j (by omega)]
      simp [show o ≠ j by omega]
    · have hjg : j ≠ g := fun e9 => hne (by rw [e9])
      exact (k4.block j (by rw [World.size_setCell]; exact hj) hne).trans (heap_setCell_other W ⟨g, o, none⟩ j v hjg)
/-- 'clear(s)' at elements of several cells. -/
theorem run_clear_many {P : Program} (w : World) (t e ty : TypeId) (z : Value) (ht : P.underlying t = some (.slice e)) (hv : ∀ w, (zeroValue e).run P w = .ok z w) (h1 : ∀ u ∈ z.cells.toList, u.oneCell' = true) (b o n c : Nat) (hn : 0 < n)
    (hc : ∀ j, j < n * z.cells.size → (w.cell? ⟨b, o + j, none⟩).isSome = true) (hf : ∀ j, w.frozen? ⟨b, j, none⟩ = false) :
    (Builtin.clear_ #[t] ty #[.slice (some ⟨b, o, none⟩) n c]).run P w = .ok (.tuple #[]) (w.setCells b o (Builtin.zeroCells z.cells n).toList) := by
  have hl : (Builtin.zeroCells z.cells n).toList.length = n * z.cells.size := by simp [Builtin.zeroCells]
  have hst := run_storeCells_cells (P := P) b o (Builtin.zeroCells z.cells n).toList 0 w (by rw [hl]; simpa using hc) (fun j _ => by simpa using hf (o + j)) (by
    intro v hv'
    simp only [Builtin.zeroCells, Array.toList_map, List.mem_map] at hv'
    obtain ⟨i, hi, rfl⟩ := hv'
    have hi' : i < n * z.cells.size := by simpa using hi
    have h0 : 0 < z.cells.size := by
      rcases Nat.eq_zero_or_pos z.cells.size with h | h
      · rw [h] at hi'; simp at hi'
      · exact h
    have hm := Nat.mod_lt i h0
    rw [getElem!_pos z.cells _ hm]
    exact h1 _ (by simp))
  simp only [Nat.add_zero] at hst
  obtain ⟨m, rfl⟩ : ∃ m, n = m + 1 := ⟨n - 1, by omega⟩
  simp [Builtin.clear_, run_underlying ht, hv, hst]
/-- Block g begins with the places R. -/
def CRow (W : World) (g N : Nat) (R : List Ct) : Prop := ∃ cur, W.heap[g]? = some (.cells cur 69 (0, 0)) ∧ cur.toList.take (R.length * 4) = R.flatMap ctCs ∧ R.length * 4 ≤ cur.size ∧ cur.size = N
theorem CRow.at {W : World} {g N : Nat} {R : List Ct} (h : CRow W g N R) {i : Nat} {x : Ct} (hi : R[i]? = some x) :
    W.cell? ⟨g, i * 4, none⟩ = some (.int .i64 x.br) ∧ W.cell? ⟨g, i * 4 + 1, none⟩ = some (.int .i64 x.nu) ∧ W.cell? ⟨g, i * 4 + 2, none⟩ = some (.int .i64 x.su) ∧ W.cell? ⟨g, i * 4 + 3, none⟩ = some (.int .i64 x.li) := by
  obtain ⟨cur, hb, ht, hs, hN⟩ := h
  have hl := (List.getElem?_eq_some_iff.1 hi).1
  have key : ∀ j u, j < 4 → (ctCs x)[j]? = some u → W.cell? ⟨g, i * 4 + j, none⟩ = some u := fun j u hj hu => by
    have h1 := gcells_at (cf := ctCs) (sz := 4) (fun _ => rfl) R i x hi j hj
    have h2 : (cur.toList.take (R.length * 4))[i * 4 + j]? = (R.flatMap ctCs)[i * 4 + j]? := by rw [ht]
    rw [List.getElem?_take_of_lt (by omega), Array.getElem?_toList] at h2
    exact cell_of hb (h2.trans (h1.trans hu))
  exact ⟨key 0 _ (by omega) rfl, key 1 _ (by omega) rfl, key 2 _ (by omega) rfl, key 3 _ (by omega) rfl⟩
theorem CRow.frozen {W : World} {g N : Nat} {R : List Ct} (h : CRow W g N R) (i : Nat) : W.frozen? ⟨g, i, none⟩ = false := by
  obtain ⟨cur, hb, _⟩ := h
  exact frozen_of hb i
theorem CRow.drew {W : World} {g N n : Nat} {R : List Ct} (h : CRow W g N R) : CRow (W.drewN n) g N R := h
/-- A place is stored. -/
def cSt4 (W : World) (g k : Nat) (x : Ct) : World := (((W.setCell ⟨g, k * 4, none⟩ (.int .i64 x.br)).setCell ⟨g, k * 4 + 1, none⟩ (.int .i64 x.nu)).setCell ⟨g, k * 4 + 2, none⟩ (.int .i64 x.su)).setCell ⟨g, k * 4 + 3, none⟩ (.int .i64 x.li)
theorem CRow.set {W : World} {g k N : Nat} {R : List Ct} (h : CRow W g N R) (x : Ct) (hk : k < R.length) : CRow (cSt4 W g k x) g N (R.set k x) ∧ W.grownBy (cSt4 W g k x) (some g) := by
  obtain ⟨cur, hb, ht, hs, hN⟩ := h
  refine ⟨⟨_, heap_setCell_same _ g _ _ 69 _ (heap_setCell_same _ g _ _ 69 _ (heap_setCell_same _ g _ _ 69 _ (heap_setCell_same _ g _ _ 69 _ hb))), ?_, by simpa using hs, by simpa using hN⟩, ⟨rfl, rfl, rfl, by simp [cSt4], fun j _ hne => ?_⟩⟩
  · rw [List.length_set]
    apply List.ext_getElem?
    intro t
    have hL : ((R.set k x).flatMap ctCs).length = R.length * 4 := by have := gcells_len (cf := ctCs) (sz := 4) (fun _ => rfl) (R.set k x); rw [List.length_set] at this; exact this
    by_cases hT : t < R.length * 4
    · rw [List.getElem?_take_of_lt hT, Array.getElem?_toList]
      have hi : t / 4 < R.length := Nat.div_lt_of_lt_mul (by rw [Nat.mul_comm]; exact hT)
      have e : t = t / 4 * 4 + t % 4 := by omega
      have hold : cur[t]? = (R.flatMap ctCs)[t]? := by
        rw [← ht, List.getElem?_take_of_lt hT, Array.getElem?_toList]
      have h1 := gcells_at (cf := ctCs) (sz := 4) (fun _ => rfl) (R.set k x) (t / 4) _ (List.getElem?_eq_getElem (by rw [List.length_set]; exact hi)) (t % 4) (by omega)
      have h2 := gcells_at (cf := ctCs) (sz := 4) (fun _ => rfl) R (t / 4) _ (List.getElem?_eq_getElem hi) (t % 4) (by omega)
      rw [← e] at h1 h2
      refine Eq.trans ?_ h1.symm
      by_cases hkt : k = t / 4
      · have hx : (R.set k x)[t / 4]'(by rw [List.length_set]; exact hi) = x := by subst hkt; simp
        rw [hx]
        have hm : t % 4 = 0 ∨ t % 4 = 1 ∨ t % 4 = 2 ∨ t % 4 = 3 := by omega
        have hcs : t < cur.size := by omega
        rcases hm with hm | hm | hm | hm
        · have et : t = k * 4 := by omega
          rw [hm, et]
          rw [et] at hcs
          simp [ctCs, hcs]
        · have et : t = k * 4 + 1 := by omega
          rw [hm, et]
          rw [et] at hcs
          simp [ctCs, hcs]
        · have et : t = k * 4 + 2 := by omega
          rw [hm, et]
          rw [et] at hcs
          simp [ctCs, hcs]
        · have et : t = k * 4 + 3 := by omega
          rw [hm, et]
          rw [et] at hcs
          simp [ctCs, hcs]
      · have hx : (R.set k x)[t / 4]'(by rw [List.length_set]; exact hi) = R[t / 4] := by rw [List.getElem_set_ne hkt]
        rw [hx, ← h2]
        rw [Array.getElem?_setIfInBounds_ne (by omega), Array.getElem?_setIfInBounds_ne (by omega), Array.getElem?_setIfInBounds_ne (by omega), Array.getElem?_setIfInBounds_ne (by omega)]
        exact hold
    · rw [List.getElem?_take_eq_none (by omega), List.getElem?_eq_none (by rw [hL]; omega)]
  · have hjg : j ≠ g := fun e9 => hne (by rw [e9])
    unfold cSt4
    rw [heap_setCell_other _ ⟨g, k * 4 + 3, none⟩ j _ hjg, heap_setCell_other _ ⟨g, k * 4 + 2, none⟩ j _ hjg, heap_setCell_other _ ⟨g, k * 4 + 1, none⟩ j _ hjg, heap_setCell_other _ ⟨g, k * 4, none⟩ j _ hjg]
/-- The row is cut at k, and what lies behind is written. -/
theorem CRow.cut {W : World} {g k N : Nat} {R : List Ct} (h : CRow W g N R) (hk : k ≤ R.length) (vs : List Value) : CRow (W.setCells g (k * 4) vs) g N (R.take k) ∧ W.grownBy (W.setCells g (k * 4) vs) (some g) := by
  obtain ⟨cur, hb, ht, hs, hN⟩ := h
  obtain ⟨cur', k1, k2, k3, k4⟩ := setCells_block g vs (k * 4) W cur 69 hb
  have hl : (R.take k).length = k := by rw [List.length_take]; omega
  refine ⟨⟨cur', k1, ?_, by rw [hl, k2]; omega, by rw [k2]; exact hN⟩, k4⟩
  rw [hl]
  have e1 : cur'.toList.take (k * 4) = cur.toList.take (k * 4) := by
    apply List.ext_getElem?
    intro j
    by_cases hj : j < k * 4
    · rw [List.getElem?_take_of_lt hj, List.getElem?_take_of_lt hj, Array.getElem?_toList, Array.getElem?_toList, k3 j hj]
    · rw [List.getElem?_take_eq_none (by omega), List.getElem?_take_eq_none (by omega)]
  have e2 : cur.toList.take (k * 4) = (cur.toList.take (R.length * 4)).take (k * 4) := by rw [List.take_take, Nat.min_eq_left (by omega)]
  have e3 : R.flatMap ctCs = (R.take k).flatMap ctCs ++ (R.drop k).flatMap ctCs := by rw [← List.flatMap_append, List.take_append_drop]
  have e4 : ((R.take k).flatMap ctCs).length = k * 4 := by have := gcells_len (cf := ctCs) (sz := 4) (fun _ => rfl) (R.take k); rw [hl] at this; exact this
  rw [e1, e2, ht, e3, ← e4, List.take_left]
end
section
open Go Go.RowKit
attribute [local go_sem] Oper.semAt_some

/-- Between two rounds of the outer loop. -/
def CoO (w : World) (xs : List Ct) (s3 : Value) (W : World) : Prop := ∃ k : Nat, k + 1 ≤ xs.length ∧ s3 = .int .i64 ((k + 1 : Nat) : Int) ∧ Pfx xs (k + 1) ∧ ∃ n, W = w.drewN n
/-- Between two rounds of the inner loop, which began at k0. -/
def CoN (w : World) (g N k0 : Nat) (xs : List Ct) (s3 s5 : Value) (W : World) : Prop := ∃ (m k : Nat) (R : List Ct), k0 + m + 1 ≤ xs.length ∧ s3 = .int .i64 (k : Int) ∧ s5 = .int .i64 ((m + 1 : Nat) : Int) ∧ CmI xs (k0 + m + 1) k R ∧ CRow W g N R ∧ w.grownBy W (some g)
set_option maxHeartbeats 1000000 in
theorem eqIn_ct (d : Nat) (x y : Ct) (w : World) : (Op.equalIn (d + 2 + 1) 69 (ctV x) (ctV y)).run Tryz.prog w = .ok (decide (x = y)) w := by
  obtain ⟨r, n, s, l⟩ := x
  obtain ⟨r', n', s', l'⟩ := y
  unfold ctV
  rw [Op.equalIn]
  simp [go_sem]
  by_cases h1 : r = r' <;> by_cases h2 : n = n' <;> by_cases h3 : s = s' <;> by_cases h4 : l = l' <;> simp [h1, h2, h3, h4]
theorem eql_ct (x y : Ct) (w : World) : (binOp .eql 69 (ctV x) (ctV y)).run Tryz.prog w = .ok (.bool (decide (x = y))) w := by
  have h := eqIn_ct 9997 x y w
  unfold ctV at h ⊢
  simp only [binOp]
  simp [Op.equal, Op.maxDepth, h]
theorem neq_ct (x y : Ct) (w : World) : (binOp .neq 69 (ctV x) (ctV y)).run Tryz.prog w = .ok (.bool (!decide (x = y))) w := by
  have h := eqIn_ct 9997 x y w
  unfold ctV at h ⊢
  simp only [binOp]
  simp [Op.equal, Op.maxDepth, h]
theorem eql_ne {x y : Ct} (h : x ≠ y) (W : World) : (binOp .eql 69 (.agg #[.int .i64 x.br, .int .i64 x.nu, .int .i64 x.su, .int .i64 x.li]) (.agg #[.int .i64 y.br, .int .i64 y.nu, .int .i64 y.su, .int .i64 y.li])).run Tryz.prog W = .ok (.bool false) W := by
  have := eql_ct x y W; rw [decide_eq_false h] at this; exact this
set_option maxHeartbeats 4000000 in
set_option maxRecDepth 100000 in
theorem compact_any (w : World) (g N cap : Nat) (xs : List Ct) (hr : CRow w g N xs) (hn : 2 ≤ xs.length) (hl : xs.length ≤ 100000000) (hc : xs.length ≤ cap) :
    Calls Tryz.prog 113 #[.slice (some ⟨g, 0, none⟩) xs.length cap] w fun e w' => e = .returned (.slice (some ⟨g, 0, none⟩) (dedP xs).length cap) ∧ CRow w' g N (dedP xs) ∧ (dedP xs).length ≤ xs.length ∧ w.grownBy w' (some g) := by
  have HR := Lib.hid hr
  clear hr
  obtain ⟨n, hn'⟩ : ∃ n, xs.length = n := ⟨_, rfl⟩
  rw [hn'] at hn hl hc ⊢
  go_enter Tryz.func113, Tryz.ntmps113
  go_wp2_with fail
  go_loopw [3] (fun s3 W => CoO w xs s3 W) (fun s3 _ => toM n s3)
  case atStart => exact ⟨0, by omega, rfl, Pfx.one xs, 0, rfl⟩
  case round =>
    obtain ⟨k, hk, rfl, hp, q, rfl⟩ := hrel
    have HP := Lib.hid hp
    clear hp
    rw [hn'] at hk
    by_cases hlt : k + 1 < n
    case neg =>
      obtain rfl : n = k + 1 := by omega
      have hni : ¬ (((k + 1 : Nat) : Int) < ((k + 1 : Nat) : Int)) := by omega
      go_wp2_with fail
      go_ret
      have hd : dedP xs = xs := by have := HP.out; unfold Pfx at this; rwa [← hn', List.take_length] at this
      exact ⟨by rw [hd, hn']; rfl, by rw [hd]; exact HR.out.drew, by rw [hd, hn']; exact Nat.le_refl _, ⟨rfl, rfl, rfl, Nat.le_refl _, fun _ _ _ => rfl⟩⟩
    have hI : ((k + 1 : Nat) : Int) < (n : Int) := by omega
    obtain ⟨a, ha⟩ : ∃ a, xs[k]? = some a := ⟨_, List.getElem?_eq_getElem (by omega)⟩
    obtain ⟨b, hb⟩ : ∃ b, xs[k + 1]? = some b := ⟨_, List.getElem?_eq_getElem (by omega)⟩
    obtain ⟨a0, a1, a2, a3⟩ := HR.out.at ha
    obtain ⟨b0, b1, b2, b3⟩ := HR.out.at hb
    have i1 : (k : Int) + 1 < (n : Int) := by omega
    have i2 : (0 : Int) ≤ (k : Int) + 1 := by omega
    have i3 : ((k : Int) + 1).toNat = k + 1 := by omega
    have i4 : (k : Int) < (n : Int) := by omega
    have i5 : IntKind.i64.wrap (k : Int) = (k : Int) := by simp [IntKind.wrap, IntKind.bits, IntKind.signed]; omega
    have HA := Lib.hid ha
    have HB := Lib.hid hb
    clear ha hb
    by_cases hab : b = a
    · subst hab
      have d : ∀ W, (binOp .eql 69 (.agg #[.int .i64 b.br, .int .i64 b.nu, .int .i64 b.su, .int .i64 b.li]) (.agg #[.int .i64 b.br, .int .i64 b.nu, .int .i64 b.su, .int .i64 b.li])).run Tryz.prog W = .ok (.bool true) W := fun W => by
        have := eql_ct b b W; rw [decide_eq_true rfl] at this; exact this
      have HS := Lib.hid (CmI.start HP.out HA.out HB.out)
      go_upto_region 6 with (fail)
      go_quiet (fail)
      clear a0 a1 a2 a3 b0 b1 b2 b3 d
      go_wp2_with fail
      go_loopw [3, 5] (fun s3 s5 W => CoN w g N (k + 1) xs s3 s5 W) (fun _ s5 _ => toM (n - (k + 1)) s5)
      case atStart => exact ⟨0, k + 1, xs, by omega, by go_num, rfl, HS.out, HR.out.drew, ⟨rfl, rfl, rfl, Nat.le_refl _, fun _ _ _ => rfl⟩⟩
      case round =>
        obtain ⟨m, kk, R, hm, rfl, rfl, hI, hW, hG⟩ := hrel
        obtain ⟨n1, e1⟩ : ∃ n1, n - (k + 1) = n1 := ⟨_, rfl⟩
        obtain ⟨c1, e2⟩ : ∃ c1, cap - (k + 1) = c1 := ⟨_, rfl⟩
        rw [e1, e2]
        rw [hn'] at hm
        have hRl : R.length = n := by rw [hI.len, hn']
        have hkk := hI.lt
        have HI := Lib.hid hI
        have HW := Lib.hid hW
        have HG := Lib.hid hG
        have HRL := Lib.hid hRl
        have HGD := Lib.hid (fun q => (show w.grownBy (wr.drewN q) (some g) from ⟨HG.out.os, HG.out.tape, HG.out.output, HG.out.size, HG.out.block⟩))
        clear hI hW hG hRl
        by_cases hlt : m + 1 < n1
        case neg =>
          have hJ : ¬ ((m + 1 : Nat) : Int) < (n1 : Int) := by omega
          have j1 : ¬ (m : Int) + 1 < (n1 : Int) := by omega
          have hfin := HI.out.fin (by omega)
          have hk2 : kk < n := by omega
          have hdl : (dedP xs).length = kk := by rw [← hfin, List.length_take]; have := HRL.out; omega
          have HD := Lib.hid hdl
          have HFI := Lib.hid hfin
          have hcl : ∀ ty, (Builtin.clear_ #[38] ty #[.slice (some ⟨g, kk * 4, none⟩) (n - kk) (cap - kk)]).run Tryz.prog wr = .ok (.tuple #[]) (wr.setCells g (kk * 4) (Builtin.zeroCells (Value.agg #[.int .i64 0, .int .i64 0, .int .i64 0, .int .i64 0]).cells (n - kk)).toList) := fun ty =>
            run_clear_many wr 38 69 ty _ Tryz.underlying38 Tryz.zeroValue69 (by intro u hu; simp [Value.cells] at hu; rw [hu]; rfl) g (kk * 4) (n - kk) (cap - kk) (by omega) (fun j hj => by
              have hj4 : j < (n - kk) * 4 := hj
              have hjn : kk + j / 4 < R.length := by have := HRL.out; omega
              obtain ⟨c0, c1, c2, c3⟩ := HW.out.at (List.getElem?_eq_getElem hjn)
              have hm4 : j % 4 = 0 ∨ j % 4 = 1 ∨ j % 4 = 2 ∨ j % 4 = 3 := by omega
              rcases hm4 with h9 | h9 | h9 | h9
              · rw [show kk * 4 + j = (kk + j / 4) * 4 by omega, c0]; rfl
              · rw [show kk * 4 + j = (kk + j / 4) * 4 + 1 by omega, c1]; rfl
              · rw [show kk * 4 + j = (kk + j / 4) * 4 + 2 by omega, c2]; rfl
              · rw [show kk * 4 + j = (kk + j / 4) * 4 + 3 by omega, c3]; rfl) (fun j => HW.out.frozen j)
          generalize (Builtin.zeroCells (Value.agg #[.int .i64 0, .int .i64 0, .int .i64 0, .int .i64 0]).cells (n - kk)).toList = vs at hcl
          have HC := Lib.hid (HW.out.cut (k := kk) (by have := HRL.out; omega) vs)
          have t1 : (kk : Int) ≤ (n : Int) := by omega
          have t2 : (kk : Int) ≤ (cap : Int) := by omega
          clear hfin hdl
          go_wp2_with fail
          go_ret
          refine ⟨by rw [HD.out]; rfl, ?_, by rw [HD.out]; omega, HG.out.andThen HC.out.2 (fun _ hj => .inr hj)⟩
          have := HC.out.1
          rwa [HFI.out] at this
        have hJ : ((m + 1 : Nat) : Int) < (n1 : Int) := by omega
        have j1 : (m : Int) + 1 < (n1 : Int) := by omega
        have j2 : (0 : Int) ≤ (m : Int) + 1 := by omega
        have j3 : ((m : Int) + 1).toNat = m + 1 := by omega
        have j4 : (m : Int) < (n1 : Int) := by omega
        have j5 : IntKind.i64.wrap (m : Int) = (m : Int) := by simp [IntKind.wrap, IntKind.bits, IntKind.signed]; omega
        obtain ⟨x, hx⟩ : ∃ x, xs[k + 1 + m]? = some x := ⟨_, List.getElem?_eq_getElem (by omega)⟩
        obtain ⟨y, hy⟩ : ∃ y, xs[k + 1 + m + 1]? = some y := ⟨_, List.getElem?_eq_getElem (by omega)⟩
        obtain ⟨a0, a1, a2, a3⟩ := HW.out.at ((HI.out.rest (k + 1 + m) (by omega)).trans hx)
        obtain ⟨b0, b1, b2, b3⟩ := HW.out.at ((HI.out.rest (k + 1 + m + 1) (by omega)).trans hy)
        rw [show (k + 1 + m) * 4 = (k + 1) * 4 + m * 4 by omega] at a0 a1 a2 a3
        rw [show (k + 1 + m + 1) * 4 = (k + 1) * 4 + (m + 1) * 4 by omega] at b0 b1 b2 b3
        have HX := Lib.hid hx
        have HY := Lib.hid hy
        clear hx hy
        by_cases hxy : y = x
        · subst hxy
          have d : ∀ W, (binOp .neq 69 (.agg #[.int .i64 y.br, .int .i64 y.nu, .int .i64 y.su, .int .i64 y.li]) (.agg #[.int .i64 y.br, .int .i64 y.nu, .int .i64 y.su, .int .i64 y.li])).run Tryz.prog W = .ok (.bool false) W := fun W => by
            have := neq_ct y y W; rw [decide_eq_true rfl] at this; exact this
          go_upto_region 11 with (fail)
          go_quiet (fail)
          go_wp2_with fail
          go_roundw
          case rel => exact ⟨m + 1, kk, R, by omega, rfl, by go_num, HI.out.same HX.out HY.out, HW.out.drew, ⟨HG.out.os, HG.out.tape, HG.out.output, HG.out.size, HG.out.block⟩⟩
          case measure => simp only [toM]; omega
        · have d : ∀ W, (binOp .neq 69 (.agg #[.int .i64 y.br, .int .i64 y.nu, .int .i64 y.su, .int .i64 y.li]) (.agg #[.int .i64 x.br, .int .i64 x.nu, .int .i64 x.su, .int .i64 x.li])).run Tryz.prog W = .ok (.bool true) W := fun W => by
            have := neq_ct y x W; rw [decide_eq_false hxy] at this; exact this
          have hk2 : kk < R.length := by have := HRL.out; omega
          obtain ⟨r, hr⟩ : ∃ r, R[kk]? = some r := ⟨_, List.getElem?_eq_getElem hk2⟩
          obtain ⟨r0, r1, r2, r3⟩ := HW.out.at hr
          have f0 := HW.out.frozen (kk * 4)
          have f1 := HW.out.frozen (kk * 4 + 1)
          have f2 := HW.out.frozen (kk * 4 + 2)
          have f3 := HW.out.frozen (kk * 4 + 3)
          have t1 : (kk : Int) < (n : Int) := by have := HRL.out; omega
          have HN := Lib.hid (HI.out.new HX.out HY.out (Ne.symm hxy))
          have HST := Lib.hid (fun q => (CRow.set (HW.out.drew (n := q)) y hk2))
          clear hxy hr
          go_upto_region 11 with (fail)
          go_quiet (fail)
          go_wp2_with fail
          go_roundw
          case rel => exact ⟨m + 1, kk + 1, R.set kk y, by omega, by go_num, by go_num, HN.out, (HST.out _).1, (HGD.out _).andThen (HST.out _).2 (fun _ hj => .inr hj)⟩
          case measure => simp only [toM]; omega
    · have d := eql_ne hab
      have HN := Lib.hid (HP.out.next HA.out HB.out (Ne.symm hab))
      clear hab
      go_upto_region 6 with (fail)
      go_quiet (fail)
      trace_state
      go_wp2_with fail
      go_roundw
      case rel => exact ⟨k + 1, by omega, by go_num, HN.out, _, rfl⟩
      case measure => simp only [toM]; omega
theorem compact_one (w : World) (A : Option Addr) (c : Nat) : Calls Tryz.prog 113 #[.slice A 1 c] w fun e w' => e = .returned (.slice A 1 c) ∧ w = w' := by
  go_enter Tryz.func113, Tryz.ntmps113
  go_wp2_with fail
  go_ret
  exact ⟨rfl, rfl⟩
/-- slices.Compact at a row of the call's own. -/
theorem compact_own (w : World) (B : Nat) (v : Value) (xs : List Ct) (h : kCt.own 69 w B (fun _ => False) v xs) (hne : xs ≠ []) (hl : xs.length ≤ 100000000) :
    Calls Tryz.prog 113 #[v] w fun e w' => ∃ v', e = .returned v' ∧ v'.ownBlock = v.ownBlock ∧ kCt.own 69 w' B (fun _ => False) v' (dedP xs) ∧ w.grownBy w' v.ownBlock := by
  have hc := ct_cells h
  rcases hc.2 with ⟨_, h0⟩ | ⟨g, cap, cur, rfl, hbase, hb, h1, h2, h3, h4⟩
  · exact absurd (List.length_eq_zero_iff.1 h0) hne
  by_cases hn : 2 ≤ xs.length
  · refine (compact_any w g (cap * 4) cap xs ⟨cur, hb, h4, by omega, h3⟩ hn hl h1).mono ?_
    rintro e w' ⟨rfl, ⟨cur', hb', ht', hs', hz'⟩, hle, hg⟩
    refine ⟨_, rfl, rfl, cells_ct ⟨gcells_len (cf := ctCs) (sz := 4) (fun _ => rfl) _, .inr ⟨g, cap, cur', rfl, hbase, hb', by omega, h2, hz', ht'⟩⟩, hg⟩
  · have e1 : xs.length = 1 := by have := List.length_pos_iff.2 hne; omega
    obtain ⟨x, rfl⟩ : ∃ x, xs = [x] := List.length_eq_one_iff.1 e1
    refine (compact_one w (some ⟨g, 0, none⟩) cap).mono ?_
    rintro e w' ⟨rfl, rfl⟩
    exact ⟨_, rfl, rfl, h, ⟨rfl, rfl, rfl, Nat.le_refl _, fun _ _ _ => rfl⟩⟩
end
section
open Go Go.RowKit
attribute [local go_sem] Oper.semAt_some

theorem ct_at {W : World} {P : Nat → Prop} {A : Option Addr} {n : Nat} {xs : List Ct} (h : kCt.row W P A n xs) {i : Nat} {x : Ct} (hi : xs[i]? = some x) :
    ∃ b off, A = some ⟨b, off, none⟩ ∧ b < W.heap.size ∧ P b ∧ W.cell? ⟨b, off + i * 4, none⟩ = some (.int .i64 x.br) ∧ W.cell? ⟨b, off + i * 4 + 1, none⟩ = some (.int .i64 x.nu) ∧ W.cell? ⟨b, off + i * 4 + 2, none⟩ = some (.int .i64 x.su) ∧ W.cell? ⟨b, off + i * 4 + 3, none⟩ = some (.int .i64 x.li) := by
  obtain ⟨b, off, cs, rfl, hb, hP, hrep, hc⟩ := Lay.row_at h hi
  rw [kCt_rep.1 hrep] at hc
  exact ⟨b, off, rfl, hb, hP, hc 0 _ rfl, hc 1 _ rfl, hc 2 _ rfl, hc 3 _ rfl⟩
theorem take_eq {α : Type} {xs ys : List α} {i : Nat} {x y : α} (h : xs.take i = ys.take i) (hx : xs[i]? = some x) (hy : ys[i]? = some y) (e : x = y) : xs.take (i + 1) = ys.take (i + 1) := by
  rw [List.take_add_one, List.take_add_one, h, hx, hy, e]
def SaR (w : World) (n : Nat) (xs ys : List Ct) (s5 : Value) (W : World) : Prop := ∃ i : Nat, i ≤ n ∧ s5 = .int .i64 i ∧ xs.take i = ys.take i ∧ ∃ q, W = w.drewN q
set_option maxHeartbeats 4000000 in
set_option maxRecDepth 100000 in
theorem samec_any (P Q : Nat → Prop) (w : World) (xs ys : List Ct) (A A' : Option Addr) (n n' c c' : Nat) (h : kCt.row w P A n xs) (h' : kCt.row w Q A' n' ys) (hn : n ≤ 100000000) (hn' : n' ≤ 100000000) :
    Calls Tryz.prog 27 #[.slice A n c, .slice A' n' c'] w fun e w' => e = .returned (.bool (decide (xs = ys))) ∧ ∃ q, w' = w.drewN q := by
  have HL := Lib.hid (Lay.row_len h)
  have HL' := Lib.hid (Lay.row_len h')
  have HR := Lib.hid h
  have HR' := Lib.hid h'
  obtain ⟨r, hr⟩ : ∃ r, decide (xs = ys) = r := ⟨_, rfl⟩
  rw [hr]
  have HV := Lib.hid hr
  clear h h' hr
  by_cases hne : n = n'
  case neg =>
    have d : ((n : Int) != (n' : Int)) = true := by simp; omega
    have hF : r = false := by rw [← HV.out]; exact decide_eq_false fun e => hne (by rw [HL.out, HL'.out, e])
    subst hF
    go_enter Tryz.func27, Tryz.ntmps27
    go_wp2_with fail
    go_ret
    exact ⟨rfl, 0, rfl⟩
  subst hne
  go_enter Tryz.func27, Tryz.ntmps27
  go_wp2_with fail
  go_loopw [5] (fun s5 W => SaR w n xs ys s5 W) (fun s5 _ => toM n s5)
  case atStart => exact ⟨0, by omega, rfl, rfl, 0, rfl⟩
  case round =>
    obtain ⟨i, hi, rfl, hp, q, rfl⟩ := hrel
    have HP := Lib.hid hp
    clear hp
    by_cases hlt : i < n
    case neg =>
      obtain rfl : i = n := by omega
      have hni : ¬ ((i : Int) < (i : Int)) := by omega
      have hF : r = true := by
        rw [← HV.out]
        have := HP.out
        rw [HL.out, List.take_length] at this
        rw [← HL.out, HL'.out, List.take_length] at this
        exact decide_eq_true this
      subst hF
      go_wp2_with fail
      go_ret
      exact ⟨rfl, q, rfl⟩
    have hI : (i : Int) < (n : Int) := by omega
    obtain ⟨x, hx⟩ : ∃ x, xs[i]? = some x := ⟨_, List.getElem?_eq_getElem (by have := HL.out; omega)⟩
    obtain ⟨y, hy⟩ : ∃ y, ys[i]? = some y := ⟨_, List.getElem?_eq_getElem (by have := HL'.out; omega)⟩
    obtain ⟨b, off, rfl, _, _, a0, a1, a2, a3⟩ := ct_at HR.out hx
    obtain ⟨b', off', rfl, _, _, b0, b1, b2, b3⟩ := ct_at HR'.out hy
    have HX := Lib.hid hx
    have HY := Lib.hid hy
    clear hx hy
    by_cases hxy : x = y
    · subst hxy
      have d : ∀ W, (binOp .neq 69 (.agg #[.int .i64 x.br, .int .i64 x.nu, .int .i64 x.su, .int .i64 x.li]) (.agg #[.int .i64 x.br, .int .i64 x.nu, .int .i64 x.su, .int .i64 x.li])).run Tryz.prog W = .ok (.bool false) W := fun W => by
        have := neq_ct x x W; rw [decide_eq_true rfl] at this; exact this
      go_upto_region 6 with (fail)
      go_quiet (fail)
      go_wp2_with fail
      go_roundw
      case rel => exact ⟨i + 1, by omega, by go_num, take_eq HP.out HX.out HY.out rfl, _, rfl⟩
      case measure => simp only [toM]; omega
    · have d : ∀ W, (binOp .neq 69 (.agg #[.int .i64 x.br, .int .i64 x.nu, .int .i64 x.su, .int .i64 x.li]) (.agg #[.int .i64 y.br, .int .i64 y.nu, .int .i64 y.su, .int .i64 y.li])).run Tryz.prog W = .ok (.bool true) W := fun W => by
        have := neq_ct x y W; rw [decide_eq_false hxy] at this; exact this
      have hF : r = false := by
        rw [← HV.out]
        exact decide_eq_false fun e => hxy (by have h9 := HX.out; rw [e, HY.out] at h9; injection h9 with h9; exact h9.symm)
      subst hF
      clear hxy
      go_upto_region 6 with (fail)
      go_quiet (fail)
      go_wp2_with fail
      go_ret
      exact ⟨rfl, q + nq, by simp [World.drewN, Nat.add_assoc]⟩
end
section
open Go Go.RowKit
attribute [local go_sem] Oper.semAt_some

theorem info69 : (Tryz.prog.info? 69).map (fun i => (i.zero, i.size, i.bytes)) = some (some (Value.agg #[.int .i64 0, .int .i64 0, .int .i64 0, .int .i64 0]), 4, 32) := by kernel_rfl
/-- A row of the call's own, as a row. -/
theorem own_rowQ {β : Type} {k : Lay β} {e : TypeId} {W : World} {base : Nat} {P : Nat → Prop} {A : Option Addr} {n c : Nat} {xs : List β} (h : k.own e W base P (.slice A n c) xs) : n ≤ c ∧ k.row W (fun j => P j ∨ base ≤ j) A n xs := by
  obtain ⟨A', c', e1, h1, h2⟩ := Lay.own_row h
  have hlt := Lay.own_lt h
  obtain ⟨rfl, rfl, rfl⟩ := Value.slice.inj e1
  exact ⟨h1, Lay.row_mono h2 fun j hj _ => hj.imp id fun hj => (hlt j hj).1⟩
theorem row_A {β : Type} {k : Lay β} {W : World} {P : Nat → Prop} {A : Option Addr} {n : Nat} {xs : List β} (h : k.row W P A n xs) (e : A = none) : n = 0 := by
  subst e
  obtain ⟨ds, h1, h2, h3, _⟩ := h
  rcases Nat.eq_zero_or_pos n with h | h
  · exact h
  · obtain ⟨b, off, e, _⟩ := h3.2 h; cases e
end
end Go.Proofs.YtdbnddmncbjobaaGreatDoor