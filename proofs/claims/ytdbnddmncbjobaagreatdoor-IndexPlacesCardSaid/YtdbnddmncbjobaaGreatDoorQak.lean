/- copy of elements of several cells; elements that are set in a row of the call's own. -/
import Derived.Laws.CopyOwn
import Derived.Test.YtdbnddmncbjobaaGreatDoorQaj
import Derived.WalkMore
namespace Go.Proofs.YtdbnddmncbjobaaGreatDoor
section
open Go Go.RowKit

variable {β : Type}
theorem run_copy_sz {P : Program} (w : World) (dT sT ty elem : TypeId) (g o dLen dCap sz : Nat) (a : Addr) (sLen sCap : Nat) (cur : Array Value) (t : TypeId) (cs : List Value)
    (hu : P.underlying dT = some (.slice elem)) (hs : (P.info? elem).map (·.size) = some sz)
    (hg : w.heap[g]? = some (.cells cur t (0, 0))) (hn : cs.length = Nat.min sLen dLen * sz)
    (hsrc : ∀ j v, cs[j]? = some v → w.cell? (a.add j) = some v) (hfit : o + cs.length ≤ cur.size) (h1 : ∀ v ∈ cs, v.oneCell' = true) :
    (Builtin.copy_ #[dT, sT] ty #[.slice (some ⟨g, o, none⟩) dLen dCap, .slice (some a) sLen sCap]).run P w =
      .ok (goInt (Nat.min sLen dLen)) (w.setRow g (cur.toList.take o ++ cs ++ cur.toList.drop (o + cs.length)).toArray) := by
  have hl := run_loadCells_list (P := P) w a cs hsrc
  have hst := run_storeCells_at P g o t cs 0 cur w hg (by simpa using hfit) h1
  cases hq : P.info? elem with
  | none => simp [hq] at hs
  | some i =>
    have hi : i.size = sz := by simpa [hq] using hs
    simp [Builtin.copy_, run_underlying hu, Builtin.lenOf, Builtin.firstCells, sizeOf, typeInfo, hq, hi, ← hn, hl, hst]
theorem run_copy_zero {P : Program} (w : World) (dT sT ty elem : TypeId) (d : Option Addr) (a : Option Addr) (dLen dCap sLen sCap sz : Nat) (hu : P.underlying dT = some (.slice elem)) (hs : (P.info? elem).map (·.size) = some sz) (hn : Nat.min sLen dLen = 0) :
    (Builtin.copy_ #[dT, sT] ty #[.slice d dLen dCap, .slice a sLen sCap]).run P w = .ok (goInt 0) w := by
  cases hq : P.info? elem with
  | none => simp [hq] at hs
  | some i =>
    have hl : ∀ (x : Addr), (loadCells x 0).run P w = .ok #[] w := fun x => by simpa using run_loadCells_list (P := P) w x [] (by simp)
    cases d <;> cases a <;> simp [Builtin.copy_, run_underlying hu, Builtin.lenOf, Builtin.firstCells, sizeOf, typeInfo, hq, hn, storeCells, hl]
/-- copy, where its run is known. -/
theorem wpList_copy_run' {P : Program} {w : World} {ops : Array Oper} {rest : List Oper} {o : Oper} {a : Act} {Q : Exit → Act → World → Prop} {s x : Operand} {t t' : TypeId} {vs vx v' : Value} {w' : World}
    (hr : (Builtin.copy_ #[t, t'] o.type #[vs, vx]).run P w = .ok v' w') (hgd : o.guard = none)
    (ho : o.op = .call { callee := .builtin .copy, args := #[s, x], argTypes := #[t, t'] }) (hs : a.eval s = vs) (hx : a.eval x = vx)
    (h : wpList P ops Q rest (a.put o.dst v') w') : wpList P ops Q (o :: rest) a w := by
  refine wpList_plain hgd fun _ hK => ?_
  unfold Oper.wp execOp
  simp only [ho, resolve, invoke, builtin, Sem.run_bind, Sem.run_pure, Result.andThen_ok, List.map_toArray, List.map_cons, List.map_nil, hs, hx, hr]
  exact hK _ _ h
theorem mkCs {sz : Nat} (cs : List Value) (h : cs.length = sz) (h1 : ∀ u ∈ cs, u.oneCell' = true) : ∃ d : Cs sz, ccf d = cs := ⟨⟨cs, h, h1⟩, rfl⟩
theorem gcells_set {sz : Nat} (ds : List (Cs sz)) : ∀ (i : Nat) (d : Cs sz), i < ds.length → gcells ccf (ds.set i d) = (gcells ccf ds).take (i * sz) ++ ccf d ++ (gcells ccf ds).drop (i * sz + sz) := by
  induction ds with
  | nil => intro i d h; cases h
  | cons a r ih =>
    intro i d h
    have ha : (ccf a).length = sz := ccf_len a
    cases i with
    | zero =>
      rw [List.set_cons_zero]
      show ccf d ++ gcells ccf r = (ccf a ++ gcells ccf r).take (0 * sz) ++ ccf d ++ (ccf a ++ gcells ccf r).drop (0 * sz + sz)
      rw [show 0 * sz = 0 by omega, List.take_zero, List.nil_append, show 0 + sz = (ccf a).length by omega, List.drop_left]
    | succ i =>
      rw [List.set_cons_succ]
      show ccf a ++ gcells ccf (r.set i d) = (ccf a ++ gcells ccf r).take ((i + 1) * sz) ++ ccf d ++ (ccf a ++ gcells ccf r).drop ((i + 1) * sz + sz)
      rw [ih i d (Nat.lt_of_succ_lt_succ h), show (i + 1) * sz = (ccf a).length + i * sz by rw [Nat.succ_mul]; omega, List.take_append, List.take_of_length_le (l := ccf a) (i := (ccf a).length + i * sz) (by omega), show (ccf a).length + i * sz - (ccf a).length = i * sz by omega, show (ccf a).length + i * sz + sz = (ccf a).length + (i * sz + sz) by omega,
        List.drop_append, List.drop_of_length_le (l := ccf a) (i := (ccf a).length + (i * sz + sz)) (by omega), show (ccf a).length + (i * sz + sz) - (ccf a).length = i * sz + sz by omega, List.nil_append, List.append_assoc, List.append_assoc, List.append_assoc]
theorem set4_list (l : List Value) (o : Nat) (h : o + 4 ≤ l.length) (a b c d : Value) : (((l.set o a).set (o + 1) b).set (o + 2) c).set (o + 3) d = l.take o ++ [a, b, c, d] ++ l.drop (o + 4) := by
  apply List.ext_getElem?
  intro i
  simp only [List.getElem?_set, List.length_set]
  rw [List.append_assoc, List.getElem?_append]
  have hl : (l.take o).length = o := by simp; omega
  rw [hl]
  by_cases h1 : i < o
  · rw [if_pos h1, if_neg (by omega), if_neg (by omega), if_neg (by omega), if_neg (by omega), List.getElem?_take, if_pos h1]
  · rw [if_neg h1]
    by_cases e0 : i = o
    · subst e0; rw [if_neg (by omega), if_neg (by omega), if_neg (by omega), if_pos rfl, if_pos (by omega)]; simp
    by_cases e1 : i = o + 1
    · subst e1; rw [if_neg (by omega), if_neg (by omega), if_pos rfl, if_pos (by omega)]; simp
    by_cases e2 : i = o + 2
    · subst e2; rw [if_neg (by omega), if_pos rfl, if_pos (by omega)]; simp
    by_cases e3 : i = o + 3
    · subst e3; rw [if_pos rfl, if_pos (by omega)]; simp
    rw [if_neg (by omega), if_neg (by omega), if_neg (by omega), if_neg (by omega), List.getElem?_append_right (by simp; omega), List.getElem?_drop]
    congr 1
    simp; omega
theorem put4_eq (L : List Value) (s N i : Nat) (hs : s = 4) (hl : L.length = N * s) (hi : i < N) (a b c d : Value) : L.take (i * s) ++ [a, b, c, d] ++ L.drop (i * s + s) = (((L.set (i * 4) a).set (i * 4 + 1) b).set (i * 4 + 2) c).set (i * 4 + 3) d := by
  subst hs
  rw [set4_list _ _ (by omega)]
/-- An element is set. -/
theorem Lay.own_put4 {k : Lay β} (hk : k.sz = 4) {e : TypeId} {W : World} {base g n c : Nat} {P : Nat → Prop} {xs : List β} (h : k.own e W base P (.slice (some ⟨g, 0, none⟩) n c) xs) {i : Nat} (hi : i < xs.length) {u0 u1 u2 u3 : Value} {x : β}
    (hr : k.rep W (fun j => P j ∧ (Value.slice (some ⟨g, 0, none⟩) n c).ownBlock ≠ some j) x [u0, u1, u2, u3]) :
    k.own e ((((W.setCell ⟨g, i * 4, none⟩ u0).setCell ⟨g, i * 4 + 1, none⟩ u1).setCell ⟨g, i * 4 + 2, none⟩ u2).setCell ⟨g, i * 4 + 3, none⟩ u3) base P (.slice (some ⟨g, 0, none⟩) n c) (xs.set i x) := by
  obtain ⟨ds, h1, h2, h3⟩ := h
  have hn : n = ds.length := by
    rcases h1.2 with ⟨h1, _⟩ | ⟨g', cap, cur, h1, _⟩
    · cases h1
    · injection h1
  subst hn
  obtain ⟨d0, hd0⟩ : ∃ d0 : Cs k.sz, ccf d0 = [u0, u1, u2, u3] := mkCs _ (k.len hr) (k.one hr)
  rw [← hd0] at hr
  unfold OL at h1
  obtain ⟨s1, g1⟩ := World.ownsRow.stored h1 (i * 4) u0
  obtain ⟨s2, g2⟩ := World.ownsRow.stored s1 (i * 4 + 1) u1
  obtain ⟨s3, g3⟩ := World.ownsRow.stored s2 (i * 4 + 2) u2
  obtain ⟨s4, g4⟩ := World.ownsRow.stored s3 (i * 4 + 3) u3
  have hl := gcells_len (cf := ccf) ccf_len ds
  have hkeep : ∀ j, j < W.heap.size → (Value.slice (some ⟨g, 0, none⟩) ds.length c).ownBlock ≠ some j → ((((W.setCell ⟨g, i * 4, none⟩ u0).setCell ⟨g, i * 4 + 1, none⟩ u1).setCell ⟨g, i * 4 + 2, none⟩ u2).setCell ⟨g, i * 4 + 3, none⟩ u3).heap[j]? = W.heap[j]? := fun j _ hj => by
    have hj : j ≠ g := fun e => hj (by rw [e]; rfl)
    rw [heap_setCell_other _ ⟨g, i * 4 + 3, none⟩ j u3 hj, heap_setCell_other _ ⟨g, i * 4 + 2, none⟩ j u2 hj, heap_setCell_other _ ⟨g, i * 4 + 1, none⟩ j u1 hj, heap_setCell_other _ ⟨g, i * 4, none⟩ j u0 hj]
  have hw : W.heap.size ≤ ((((W.setCell ⟨g, i * 4, none⟩ u0).setCell ⟨g, i * 4 + 1, none⟩ u1).setCell ⟨g, i * 4 + 2, none⟩ u2).setCell ⟨g, i * 4 + 3, none⟩ u3).heap.size := by simp
  refine ⟨ds.set i d0, ?_, by rw [List.length_set, List.length_set, h2], fun j d y hd hy => ?_⟩
  · unfold OL
    have e2 : gcells ccf (ds.set i d0) = ((((gcells ccf ds).set (i * 4) u0).set (i * 4 + 1) u1).set (i * 4 + 2) u2).set (i * 4 + 3) u3 := by
      rw [gcells_set ds i _ (by omega), hd0]
      exact put4_eq _ _ ds.length i hk hl (by omega) _ _ _ _
    rw [e2, List.length_set]
    exact s4
  · rw [List.getElem?_set] at hd hy
    by_cases hij : i = j
    · rw [if_pos hij, if_pos (by omega)] at hd
      rw [if_pos hij, if_pos (by omega)] at hy
      injection hd with hd; injection hy with hy
      subst hd hy
      exact k.keep hr hw fun j hj hl => hkeep j hl hj.2
    · rw [if_neg hij] at hd hy
      exact k.keep (h3 j d y hd hy) hw fun j hj hl => hkeep j hl hj.2
theorem own_base {k : Lay β} {e : TypeId} {W : World} {base base' : Nat} {P : Nat → Prop} {v : Value} {xs : List β} (h : k.own e W base P v xs) (hb : base' ≤ base) : k.own e W base' P v xs := by
  obtain ⟨ds, h1, h2, h3⟩ := h
  refine ⟨ds, ⟨h1.1, ?_⟩, h2, h3⟩
  rcases h1.2 with h | ⟨g, cap, cur, h1, h2, h3⟩
  · exact .inl h
  · exact .inr ⟨g, cap, cur, h1, Nat.le_trans hb h2, h3⟩
/-- What is in a row of its own, all of it in blocks from base on. -/
theorem own_rowN {k : Lay β} {e : TypeId} {W : World} {base : Nat} {P Q : Nat → Prop} {v : Value} {xs : List β} (h : k.own e W base P v xs) (hP : ∀ j, P j → j < W.heap.size → Q j) (hb : ∀ j, base ≤ j → j < W.heap.size → Q j) : ∃ A c, v = .slice A xs.length c ∧ xs.length ≤ c ∧ k.row W Q A xs.length xs := by
  have hlt := Lay.own_lt h
  obtain ⟨A, c, e, hc, hr⟩ := Lay.own_row h
  exact ⟨A, c, e, hc, Lay.row_mono hr fun j hj hl => by
    rcases hj with hj | hj
    · exact hP j hj hl
    · exact hb j (hlt j hj).1 hl⟩
/-- A row of elements that is made new: all of it zero. -/
theorem own_zero {k : Lay β} (e : TypeId) (w : World) (P : Nat → Prop) (x : β) (cs : List Value) (hr : ∀ W Q, k.rep W Q x cs) (n : Nat) (hn : n ≤ 1000000) (zs : Array Value) (hz : zs.toList = (List.replicate n cs).flatten) (w' : World) (g : Nat) (hg : w'.heap[g]? = some (.cells zs e (0, 0))) (hb : w.heap.size ≤ g) :
    k.own e w' w.heap.size P (.slice (some ⟨g, 0, none⟩) n n) (List.replicate n x) := by
  have hl := k.len (hr w P)
  have ho := k.one (hr w P)
  have hlz := congrArg List.length hz
  rw [List.length_flatten, List.map_replicate, List.sum_replicate_nat, hl] at hlz
  obtain ⟨d0, hd0⟩ : ∃ d0 : Cs k.sz, ccf d0 = cs := mkCs _ hl ho
  have e1 : gcells ccf (List.replicate n d0) = (List.replicate n cs).flatten := by
    unfold gcells
    rw [List.flatMap_def, List.map_replicate, hd0]
  have hlr : (List.replicate n d0).length = n := List.length_replicate
  refine ⟨List.replicate n d0, ⟨by rw [gcells_len ccf_len], .inr ⟨g, n, zs, by rw [hlr], hb, hg, by rw [hlr]; exact Nat.le_refl _, by simp only [maxLen]; omega, by simpa using hlz, ?_⟩⟩, by rw [hlr, List.length_replicate], fun i d y hd hy => ?_⟩
  · rw [e1, ← hz, List.take_of_length_le]
    rw [hlr]; omega
  · rw [List.getElem?_replicate] at hd hy
    split at hd
    · next hi =>
      rw [if_pos hi] at hy
      injection hd with hd
      injection hy with hy
      subst hd hy
      show k.rep _ _ _ (ccf d0)
      rw [hd0]
      exact hr _ _
    · cases hd
/-- make of n elements. -/
theorem run_mk {P : Program} {t e : TypeId} {z : Value} {size bytes : Nat} (ht : P.underlying t = some (.slice e)) (hinfo : (P.info? e).map (fun i => (i.zero, i.size, i.bytes)) = some (some z, size, bytes)) (hby : bytes ≤ 1000) (n : Nat) (hn : n ≤ 1000000) (N : Int) (hN : N = (n : Int)) (W : World) :
    (Instr.makeSlice t (.int .i64 N) (.int .i64 N)).run P W = .ok (.slice (some ⟨W.heap.size, 0, none⟩) n n) (W.alloc (.cells (madeCells z.cells (n * size)) e)) := by
  subst hN
  obtain ⟨i, hi, hz, hs, hb⟩ := info_parts hinfo
  subst hs
  have hb' : (i.bytes : Int) * (n : Int) ≤ 281474976710656 := by
    have h : i.bytes * n ≤ 1000 * 1000000 := Nat.mul_le_mul (by omega) hn
    have h2 : ((i.bytes * n : Nat) : Int) ≤ 281474976710656 := by omega
    rwa [Int.natCast_mul] at h2
  have hr := run_make (P := P) W t e i z ht hi hz .i64 .i64 n n (by omega) (Int.le_refl _) hb' (by omega)
  simpa only [Int.toNat_natCast] using hr
theorem made_flat (z : Array Value) (_hz : 0 < z.size) (n : Nat) : (madeCells z (n * z.size)).toList = (List.replicate n z.toList).flatten := by
  apply List.ext_getElem?
  intro i
  unfold madeCells
  induction n generalizing i with
  | zero => simp
  | succ n ih =>
    rw [List.replicate_succ, List.flatten_cons, List.getElem?_append]
    by_cases hi : i < z.size
    · rw [if_pos (by simpa using hi)]
      have h1 : i < (n + 1) * z.size := by rw [Nat.succ_mul]; omega
      simp [h1, Nat.mod_eq_of_lt hi, hi]
    · rw [if_neg (by simpa using hi), Array.length_toList, ← ih (i - z.size)]
      have h3 : (i - z.size) % z.size = i % z.size := by rw [Nat.mod_eq_sub_mod (a := i) (by omega)]
      by_cases h1 : i < (n + 1) * z.size
      · have h2 : i - z.size < n * z.size := by rw [Nat.succ_mul] at h1; omega
        simp [h1, h2, h3]
      · have h2 : ¬ (i - z.size < n * z.size) := by rw [Nat.succ_mul] at h1; omega
        simp [h1, h2]
theorem info3 : (Tryz.prog.info? 3).map (fun i => (i.zero, i.size, i.bytes)) = some (some (Value.int .i64 0), 1, 8) := by kernel_rfl
/-- make of n numbers: the cells are a variable of the walk's. -/
theorem mkInts (n : Nat) (hn : n ≤ 1000000) (N : Int) (hN : N = (n : Int)) : ∃ Z : Array Value, (∀ W b, W.heap[b]? = some (.cells Z 3 (0, 0)) → Arr W b (List.replicate n 0)) ∧ ∀ W, (Instr.makeSlice 22 (.int .i64 N) (.int .i64 N)).run Tryz.prog W = .ok (.slice (some ⟨W.heap.size, 0, none⟩) n n) (W.alloc (.cells Z 3)) := by
  refine ⟨_, fun W b h => ?_, fun W => run_mk (P := Tryz.prog) Tryz.underlying22 info3 (by omega) n hn N hN W⟩
  unfold Arr
  rw [h]
  congr 1
  have := made_flat #[Value.int .i64 0] (by simp) n
  have e : madeCells (Value.int .i64 0).cells (n * 1) = ((List.replicate n (0 : Int)).map (Value.int .i64)).toArray := by
    apply Array.ext'
    refine this.trans ?_
    simp
  rw [e]
end
section

/-- The best way from the word i on. -/
def bst (m : Int) (ws : List Int) (i : Nat) : Int × Nat := (best m (ws.drop i)).headD (0, 0)
theorem bst_cons (m : Int) (ws : List Int) {i : Nat} (hi : i ≤ ws.length) : ∃ l, best m (ws.drop i) = bst m ws i :: l ∧ (i < ws.length → l = best m (ws.drop (i + 1))) := by
  unfold bst
  by_cases h : i < ws.length
  · obtain ⟨w, hw⟩ : ∃ w, ws[i]? = some w := ⟨_, List.getElem?_eq_getElem h⟩
    rw [dwl' ws hw]
    exact ⟨_, rfl, fun _ => rfl⟩
  · rw [List.drop_of_length_le (by omega)]
    exact ⟨[], rfl, fun h' => absurd h' h⟩
theorem bst_end (m : Int) (ws : List Int) : bst m ws ws.length = (0, 0) := by
  unfold bst; rw [List.drop_length]; rfl
theorem bst_pk (m : Int) (ws : List Int) {i : Nat} (hi : i < ws.length) : bst m ws i = pk (m + 6) (ws.drop i) (best m (ws.drop (i + 1))) 0 0 0 := by
  unfold bst
  obtain ⟨w, hw⟩ : ∃ w, ws[i]? = some w := ⟨_, List.getElem?_eq_getElem hi⟩
  rw [dwl' ws hw]
  rfl
theorem bst_bd {m : Int} (hm : 500 ≤ m) {ws : List Int} (h : Wds ws) {i : Nat} (hi : i < ws.length) : 1 ≤ (bst m ws i).2 ∧ i + (bst m ws i).2 ≤ ws.length := by
  obtain ⟨w, hw⟩ : ∃ w, ws[i]? = some w := ⟨_, List.getElem?_eq_getElem hi⟩
  have hd := dwl' ws hw
  obtain ⟨b, l, e, h1, h2⟩ := best_bd hm (w := w) (r := ws.drop (i + 1)) (fun x hx => h x (List.mem_of_mem_drop (i := i) (by rw [hd]; exact hx)))
  unfold bst
  rw [hd, e]
  simp only [List.headD_cons]
  rw [List.length_drop] at h2
  omega
theorem bst_cost {m : Int} (hm : 0 ≤ m) (hm2 : m ≤ 2000) {ws : List Int} (h : Wds ws) (hn : ws.length ≤ 500) (i : Nat) : 0 ≤ (bst m ws i).1 ∧ (bst m ws i).1 ≤ 3000000000 := by
  have h1 := best_cost hm (ws.drop i) (fun x hx => h x (List.mem_of_mem_drop hx)) 0
  unfold bst
  cases hb : best m (ws.drop i) with
  | nil => simp
  | cons b l =>
    rw [hb] at h1
    have := h1 b rfl
    simp only [List.headD_cons]
    refine ⟨this.1, Int.le_trans this.2 ?_⟩
    have h2 : m * m ≤ 2000 * 2000 := Int.mul_le_mul hm2 hm2 hm (by omega)
    have h3 : m * m * ((ws.drop i).length + 1 - 0 : Nat) ≤ 2000 * 2000 * (501 : Int) := Int.mul_le_mul h2 (by rw [List.length_drop]; omega) (by omega) (by omega)
    omega
/-- A step of the search. -/
theorem pk_step (m : Int) (ws : List Int) {q : Nat} (hq : q < ws.length) (w : Int) (hw : ws[q]? = some w) (kk : Nat) (s c : Int) (e : Nat) :
    pk s (ws.drop q) (best m (ws.drop (q + 1))) kk c e =
      if s - (w + 6) < 0 then (c, e) else if q + 1 = ws.length then (0, kk + 1)
      else if kk = 0 ∨ (s - (w + 6)) * (s - (w + 6)) + (bst m ws (q + 1)).1 ≤ c then pk (s - (w + 6)) (ws.drop (q + 1)) (best m (ws.drop (q + 1 + 1))) (kk + 1) ((s - (w + 6)) * (s - (w + 6)) + (bst m ws (q + 1)).1) (kk + 1)
      else pk (s - (w + 6)) (ws.drop (q + 1)) (best m (ws.drop (q + 1 + 1))) (kk + 1) c e := by
  obtain ⟨l, hl, hl2⟩ := bst_cons m ws (i := q + 1) (by omega)
  rw [dwl' ws hw, hl]
  simp only [pk]
  by_cases h1 : s - (w + 6) < 0
  · rw [if_pos h1, if_pos h1]
  rw [if_neg h1, if_neg h1]
  by_cases h2 : q + 1 = ws.length
  · rw [if_pos h2, if_pos (by rw [List.drop_of_length_le (by omega)]; rfl)]
  · rw [if_neg h2, if_neg (by
      rw [List.isEmpty_iff]
      intro hx
      have := congrArg List.length hx
      rw [List.length_drop] at this
      simp only [List.length_nil] at this
      omega)]
    rw [hl2 (by omega)]
/-- The ends behind a word. -/
theorem cum_step {m : Int} (hm : 500 ≤ m) {ws : List Int} (h : Wds ws) {i : Nat} (hi : i < ws.length) : cum i (lens (ws.drop i) m) = ((i + (bst m ws i).2 : Nat) : Int) :: cum ((i + (bst m ws i).2 : Nat) : Int) (lens (ws.drop (i + (bst m ws i).2)) m) := by
  have hd : ws.drop i ≠ [] := by
    intro hx
    have := congrArg List.length hx
    rw [List.length_drop] at this
    simp only [List.length_nil] at this
    omega
  obtain ⟨b, l, e, h1, h2, h3⟩ := lens_cons hm (ws := ws.drop i) (fun x hx => h x (List.mem_of_mem_drop hx)) hd
  have hb : b = bst m ws i := by unfold bst; rw [e]; rfl
  subst hb
  rw [h3, cum, List.drop_drop, Int.natCast_add]
theorem cum_end (m : Int) (ws : List Int) (f : Int) : cum f (lens (ws.drop ws.length) m) = [] := by
  rw [List.drop_length]; rfl
end
section
open Go Go.RowKit

/-- What stands in the arrays: from d on the best costs and ends. -/
structure EnA (m : Int) (ws : List Int) (d : Nat) (cl el : List Int) : Prop where
  cn : cl.length = ws.length + 1
  en : el.length = ws.length + 1
  c : ∀ k, d ≤ k → k ≤ ws.length → cl[k]? = some (bst m ws k).1
  e : ∀ k, d ≤ k → k < ws.length → el[k]? = some ((k + (bst m ws k).2 : Nat) : Int)
def EnO (w : World) (bc be : Nat) (m : Int) (ws : List Int) (s10 : Value) (w' : World) : Prop := ∃ (d : Nat) (cl el : List Int), d ≤ ws.length ∧ (d = 0 ∧ s10 = .int .i64 (-1) ∨ ∃ i : Nat, d = i + 1 ∧ s10 = .int .i64 i) ∧ Ext w w' ∧ Arr w' bc cl ∧ Arr w' be el ∧ EnA m ws d cl el
def EnI (w : World) (bc be : Nat) (m : Int) (ws : List Int) (i : Nat) (cl el : List Int) (s11 s12 : Value) (w' : World) : Prop := ∃ (q : Nat) (s c : Int) (e : Nat) (x y : Int), i ≤ q ∧ q < ws.length ∧ s11 = .int .i64 s ∧ s12 = .int .i64 ((q : Int) + 1) ∧
  Ext w w' ∧ Arr w' bc (cl.set i x) ∧ Arr w' be (el.set i y) ∧ (i < q → x = c ∧ y = ((i + e : Nat) : Int)) ∧ (q = i → s = m + 6) ∧ 0 ≤ s ∧ s ≤ m + 6 ∧
  bst m ws i = pk s (ws.drop q) (best m (ws.drop (q + 1))) (q - i) c e
theorem EnA.step {m : Int} {ws : List Int} {i : Nat} {cl el : List Int} (h : EnA m ws (i + 1) cl el) (hi : i < ws.length) {x : Int} {e : Nat} (hb : bst m ws i = (x, e)) : EnA m ws i (cl.set i x) (el.set i ((i + e : Nat) : Int)) := by
  refine ⟨by rw [List.length_set, h.cn], by rw [List.length_set, h.en], fun k h1 h2 => ?_, fun k h1 h2 => ?_⟩
  · rw [List.getElem?_set]
    by_cases hk : i = k
    · subst hk; rw [if_pos rfl, if_pos (by rw [h.cn]; omega), hb]
    · rw [if_neg hk]; exact h.c k (by omega) h2
  · rw [List.getElem?_set]
    by_cases hk : i = k
    · subst hk; rw [if_pos rfl, if_pos (by rw [h.en]; omega), hb]
    · rw [if_neg hk]; exact h.e k (by omega) h2
theorem set_same (l : List Int) (i : Nat) (h : i < l.length) : l.set i (l[i]?.getD 0) = l := by
  rw [List.getElem?_eq_getElem h]
  exact List.set_getElem_self h
def EnL (w : World) (be : Nat) (base : Nat) (m : Int) (ws el : List Int) (s13 s14 : Value) (w' : World) : Prop := ∃ (i : Nat) (done : List Int), i ≤ ws.length ∧ s14 = .int .i64 i ∧ base ≤ w'.heap.size ∧ Ext w w' ∧ Arr w' be el ∧ kInt.own 3 w' base (fun _ => True) s13 done ∧ done.length ≤ i ∧
  cum 0 (lens ws m) = done ++ cum i (lens (ws.drop i) m)
/-- Two arrays, in whatever order they were made. -/
def EnM (w : World) (n : Nat) (s8 s9 : Value) (w' : World) : Prop := ∃ bc be, bc ≠ be ∧ w.heap.size ≤ bc ∧ w.heap.size ≤ be ∧ s8 = .slice (some ⟨bc, 0, none⟩) (n + 1) (n + 1) ∧ s9 = .slice (some ⟨be, 0, none⟩) (n + 1) (n + 1) ∧ Ext w w' ∧ Arr w' bc (List.replicate (n + 1) 0) ∧ Arr w' be (List.replicate (n + 1) 0)
def toU (v : Value) : Nat := match v with | .int _ z => (z + 1).toNat | _ => 0
theorem Arr.alloc {w : World} {b : Nat} {l : List Int} (h : Arr w b l) (o : Obj) : Arr (w.alloc o) b l := h.ext ((Ext.refl w).alloc _)
set_option maxHeartbeats 8000000 in
set_option maxRecDepth 100000 in
theorem ends_any (P : Nat → Prop) (w : World) (A : Option Addr) (n c : Nat) (ws : List Int) (m : Int) (h : kInt.row w P A n ws) (hw : Wdr ws) (hn : n ≤ 500) (hm0 : 500 ≤ m) (hm : m ≤ 2000) :
    Calls Tryz.prog 220 #[.slice A n c, .int .i64 m] w (fun e w' => ∃ A' c', e = .returned (.tuple #[.slice A' (lens ws m).length c', .int .i64 0]) ∧ kInt.own 3 w' w.heap.size (fun _ => True) (.slice A' (lens ws m).length c') (cum 0 (lens ws m)) ∧ Ext w w') := by
  have HL := Lib.hid (Lay.row_len h)
  have HR := Lib.hid h
  have HW := Lib.hid hw
  have HC := Lib.hid (pcheck_any P w A n c ws m h hw hn hm0 hm)
  clear h hw
  go_enter Tryz.func220, Tryz.ntmps220
  go_wp2_with (first | (go_at_call 240; refine (HC.out).mono ?_; rintro e w1 ⟨rfl, hx1⟩))
  have HX1 := Lib.hid hx1
  clear hx1
  go_cut [8, 9] (fun s8 s9 wx => EnM w1 n s8 s9 wx)
  case first =>
    obtain ⟨Z, hz, hmk⟩ := mkInts (n + 1) (by omega) ((n : Int) + 1) (by simp)
    have HZ := Lib.hid hz
    clear hz
    have hA := HZ.out ((w1.drew.alloc (.cells Z 3)).alloc (.cells Z 3)) w1.heap.size ((Below.heap_alloc _ _ _ (by simp)).trans (heap_alloc_new w1.drew _))
    have hB := HZ.out ((w1.drew.alloc (.cells Z 3)).alloc (.cells Z 3)) (w1.heap.size + 1) (by have := heap_alloc_new (w1.drew.alloc (.cells Z 3)) (.cells Z 3); rwa [World.size_alloc] at this)
    have HA := Lib.hid hA
    have HB := Lib.hid hB
    have HXW := Lib.hid (show Ext w1 ((w1.drew.alloc (.cells Z 3)).alloc (.cells Z 3)) from ((Ext.refl w1).drew.alloc _).alloc _)
    clear hA hB
    go_region
    · go_wp2_with fail
      go_meet
      case rel => exact ⟨w1.heap.size, w1.heap.size + 1, by omega, by omega, by omega, rfl, rfl, HXW.out, HA.out, HB.out⟩
    · go_wp2_with fail
      go_meet
      case rel => exact ⟨w1.heap.size + 1, w1.heap.size, by omega, by omega, by omega, rfl, rfl, HXW.out, HB.out, HA.out⟩
  case rest =>
    obtain ⟨bc, be, hne, hbc, hbe, rfl, rfl, hxc, hac, hae⟩ := hcut
    have HAC := Lib.hid hac
    have HAE := Lib.hid hae
    have HXC := Lib.hid (HX1.out.trans hxc)
    have hbc' := Nat.le_trans HX1.out.lt hbc
    have hbe' := Nat.le_trans HX1.out.lt hbe
    clear hac hae hxc
    obtain ⟨N1, hN1⟩ : ∃ N1 : Int, (n : Int) - 1 = N1 := ⟨_, rfl⟩
    go_wp2_with fail
    have HN1 := Lib.hid hN1
    clear hN1
    go_loopw [10, 11, 12] (fun s10 s11 s12 w' => EnO w bc be m ws s10 w') (fun s10 s11 s12 _ => toU s10)
    case atStart =>
      refine ⟨ws.length, _, _, Nat.le_refl _, ?_, HXC.out, HAC.out, HAE.out, by simp [HL.out], by simp [HL.out], fun k h1 h2 => by
        obtain rfl : k = ws.length := by omega
        rw [bst_end]; simp [HL.out], fun k h1 h2 => by omega⟩
      rcases Nat.eq_zero_or_pos n with h0 | h0
      · exact .inl ⟨by have := HL.out; omega, by rw [← HN1.out, h0]; rfl⟩
      · exact .inr ⟨n - 1, by have := HL.out; omega, by rw [← HN1.out, Int.natCast_sub (by omega)]; rfl⟩
    case round =>
      obtain ⟨d, cl, el, hd, hs10, hx, ha, hb, hA⟩ := hrel
      have HX := Lib.hid hx
      have HA := Lib.hid ha
      have HB := Lib.hid hb
      have HE := Lib.hid hA
      clear hx ha hb hA HAC HAE HXC
      rcases hs10 with ⟨rfl, rfl⟩ | ⟨i, rfl, rfl⟩
      · go_wp2_with fail
        have hbelt : be < wr.heap.size := HB.out.lt
        go_loopw [13, 14] (fun s13 s14 w' => EnL w be wr.heap.size m ws el s13 s14 w') (fun _ s14 _ => toM n s14)
        case atStart => exact ⟨0, [], by omega, rfl, Nat.le_refl _, HX.out, HB.out, Lay.own_nil _ _ _ _ _, Nat.le_refl _, by simp⟩
        case round =>
          obtain ⟨i, done, hi, rfl, hbs, hx2, hb2, ho2, hdl, hcu⟩ := hrel
          have HX2 := Lib.hid hx2
          have HB2 := Lib.hid hb2
          have HO2 := Lib.hid ho2
          have HCU := Lib.hid hcu
          clear hx2 hb2 ho2 hcu
          by_cases hlt : i < n
          case neg =>
            obtain rfl : i = n := by have := HL.out; omega
            have hni : ¬ ((i : Int) < (i : Int)) := by omega
            go_wp2_with fail
            obtain ⟨A9, c9, rfl, _⟩ := Lay.own_row HO2.out
            have HD := Lib.hid (show cum 0 (lens ws m) = done by
              have := HCU.out
              rw [HL.out, cum_end, List.append_nil] at this
              exact this)
            have HDL := Lib.hid (show (lens ws m).length = done.length by rw [← HD.out, cum_len])
            refine bodyPost_ret (v := .tuple #[.slice A9 done.length c9, .int .i64 0]) (by simp [results, Tryz.results220, go_sem, *]) rfl ?_
            exact ⟨A9, c9, by rw [HDL.out], by rw [HDL.out, HD.out]; exact own_base HO2.out HX.out.lt, HX2.out⟩
          have hI : (i : Int) < (n : Int) := by omega
          have hbd := bst_bd (m := m) hm0 HW.out.wds (i := i) (by have := HL.out; omega)
          have hcs := cum_step hm0 HW.out.wds (i := i) (by have := HL.out; omega)
          rw [← HL.out] at hbd
          have hel := HE.out.e i (by omega) (by have := HL.out; omega)
          obtain ⟨x, hx⟩ : ∃ x, x = i + (bst m ws i).2 := ⟨_, rfl⟩
          rw [← hx] at hbd hcs hel
          have hce := HB2.out.cell hel
          have hlto := Lay.own_lt HO2.out
          obtain ⟨A9, c9, w9, hrun, ho9, hb9, hk9, hs9, _⟩ := own_app1 (k := kInt) (Pr := Tryz.prog) (t := 22) Tryz.underlying22 info3 rfl (by decide) (by omega) HO2.out hbs (cs := #[.int .i64 x]) (T := 3) (x := (x : Int)) rfl 1 (by omega)
          have hbn : u13.ownBlock ≠ some be := fun e => by have := (hlto be e).1; omega
          have hB9 := HB2.out.keep (hk9 be HB2.out.lt hbn)
          have hce9 := hB9.cell hel
          have HX9 := Lib.hid (show Ext w w9 from Below.trans HX2.out (hb9 w.heap.size HX.out.lt))
          have HB9 := Lib.hid hB9
          have HO9 := Lib.hid ho9
          have HCS := Lib.hid hcs
          have h1x : i < x := by omega
          have h2x : x ≤ n := hbd.2
          have HS9 := Lib.hid hs9
          clear hB9 ho9 hb9 hk9 hlto hcs hel hs9 hx hbd
          go_wp2_with (first | (at_builtin; refine wpList_append_run (s := .tmp 105) (x := .tmp 110) hrun rfl rfl rfl rfl rfl ?_))
          go_roundw
          case rel => exact ⟨x, done ++ [(x : Int)], by have := HL.out; omega, rfl, Nat.le_trans hbs HS9.out, HX9.out, HB9.out, HO9.out, by simp; omega, by rw [HCU.out, HCS.out]; simp⟩
          case measure => simp only [toM]; omega
      · have hin : i < n := by have := HL.out; omega
        go_wp2_with fail
        go_step3
        go_wp2_with fail
        go_step3
        go_wp2_with fail
        go_loopw [11, 12] (fun s11 s12 w' => EnI w bc be m ws i cl el s11 s12 w') (fun _ s12 _ => toM (n + 2) s12)
        case atStart =>
          refine ⟨i, m + 6, 0, 0, cl[i]?.getD 0, el[i]?.getD 0, Nat.le_refl _, by omega, rfl, rfl, HX.out, ?_, ?_, fun h => absurd h (Nat.lt_irrefl _), fun _ => rfl, by omega, Int.le_refl _, ?_⟩
          · rw [set_same _ _ (by rw [HE.out.cn]; omega)]; exact HA.out
          · rw [set_same _ _ (by rw [HE.out.en]; omega)]; exact HB.out
          · rw [Nat.sub_self]; exact bst_pk m ws (by omega)
        case round =>
          obtain ⟨q, s, c1, e1, x, y, hiq, hqn, rfl, rfl, hx, ha, hb, hxy, hs0, hs1, hs2, heq⟩ := hrel
          obtain ⟨v, hv⟩ : ∃ v, ws[q]? = some v := ⟨_, List.getElem?_eq_getElem hqn⟩
          have hvb := HW.out v (List.mem_of_getElem? hv)
          obtain ⟨b0, off, rfl, hb0, _, hcell⟩ := int_at (Lay.row_ext HR.out hx) hv
          have hst := pk_step m ws hqn v hv (q - i) s c1 e1
          rw [← heq] at hst
          obtain ⟨z, hz⟩ : ∃ z, s - (v + 6) = z := ⟨_, rfl⟩
          rw [hz] at hst
          have HST := Lib.hid hst
          have HXr := Lib.hid hx
          have HAr := Lib.hid ha
          have HBr := Lib.hid hb
          have HXY := Lib.hid hxy
          clear hst heq hv hx ha hb hxy
          have hq5 : (q : Int) < 500 := by have := HL.out; omega
          have hq6 : (q : Int) < (n : Int) := by have := HL.out; omega
          by_cases hz0 : z < 0
          · have hiq' : i < q := by
              rcases Nat.lt_or_ge i q with h | h
              · exact h
              · have := hs0 (by omega); omega
            have HEN := Lib.hid (HE.out.step (x := c1) (e := e1) (by omega) (by have := HST.out; rwa [if_pos hz0] at this))
            obtain ⟨rfl, rfl⟩ := HXY.out hiq'
            clear hs0
            go_wp2_with fail
            go_roundw
            case rel =>
              refine ⟨i, _, _, by omega, ?_, HXr.out, HAr.out, HBr.out, HEN.out⟩
              rcases Nat.eq_zero_or_pos i with h0 | h0
              · exact .inl ⟨h0, by rw [h0]; rfl⟩
              · exact .inr ⟨i - 1, by omega, by rw [Int.natCast_sub (by omega)]; rfl⟩
            case measure => simp only [toU]; omega
          have hzs : z ≤ 2006 := by omega
          have hz1 : 0 ≤ z := by omega
          obtain ⟨zz, hzz⟩ : ∃ zz, z * z = zz := ⟨_, rfl⟩
          have hzz1 : 0 ≤ zz ∧ zz ≤ 4024036 := by
            rw [← hzz]
            exact ⟨Int.mul_nonneg hz1 hz1, Int.le_trans (Int.mul_le_mul hzs hzs hz1 (by omega)) (by omega)⟩
          obtain ⟨hzz2, hzz3⟩ := hzz1
          have hcj := bst_cost (m := m) (by omega) hm HW.out.wds (by have := HL.out; omega) (q + 1)
          have hcc := HE.out.c (q + 1) (by omega) (by omega)
          obtain ⟨cj, hcje⟩ : ∃ cj, (bst m ws (q + 1)).1 = cj := ⟨_, rfl⟩
          rw [hcje] at hcj hcc
          obtain ⟨hcj1, hcj2⟩ := hcj
          have HST2 := Lib.hid (show bst m ws i = if q + 1 = ws.length then (0, q - i + 1) else if q - i = 0 ∨ zz + cj ≤ c1 then pk z (ws.drop (q + 1)) (best m (ws.drop (q + 1 + 1))) (q - i + 1) (zz + cj) (q - i + 1) else pk z (ws.drop (q + 1)) (best m (ws.drop (q + 1 + 1))) (q - i + 1) c1 e1 from by have := HST.out; rwa [if_neg hz0, hzz, hcje] at this)
          have hfc := HAr.out.frozen i
          have hfe := HBr.out.frozen i
          have hxc := HAr.out.cell (show (cl.set i x)[i]? = some x by rw [List.getElem?_set, if_pos rfl, if_pos (by rw [HE.out.cn]; omega)])
          have hxe := HBr.out.cell (show (el.set i y)[i]? = some y by rw [List.getElem?_set, if_pos rfl, if_pos (by rw [HE.out.en]; omega)])
          have hxj := HAr.out.cell (show (cl.set i x)[q + 1]? = some cj by rw [List.getElem?_set, if_neg (by omega)]; exact hcc)
          clear HST hcje hcc
          by_cases hqe : q + 1 = n
          · have HEN := Lib.hid (HE.out.step (x := 0) (e := q - i + 1) (by omega) (by have := HST2.out; rwa [if_pos (by rw [← HL.out]; exact hqe)] at this))
            have HS0 := Lib.hid (HAr.out.set i 0)
            have HS1 := Lib.hid (HBr.out.set i n)
            rw [List.set_set] at HS0 HS1
            have HIQ := Lib.hid (show i + (q - i + 1) = n by omega)
            rw [HIQ.out] at HEN
            obtain rfl := hqe
            clear hs0
            go_wp2_with fail
            go_roundw
            case rel =>
              (repeat apply Exists.intro)
              refine ⟨?_, rfl⟩
              refine ⟨i, _, _, by omega, ?_, HXr.out.setCell (p := ⟨bc, i, none⟩) hbc' _ |>.setCell (p := ⟨be, i, none⟩) hbe' _, HS0.out.other hne _, (HBr.out.other (a := ⟨bc, i, none⟩) (Ne.symm hne) _).set i _, ?_⟩
              · rcases Nat.eq_zero_or_pos i with h0 | h0
                · exact .inl ⟨h0, by rw [h0]; rfl⟩
                · exact .inr ⟨i - 1, by omega, by rw [Int.natCast_sub (by omega)]; rfl⟩
              · rw [List.set_set]; exact HEN.out
            case measure => simp only [toU, Array.getD]; simp
          · have hqI : ¬ ((q : Int) + 1 = (n : Int)) := by omega
            have HST3 := Lib.hid (show bst m ws i = if q - i = 0 ∨ zz + cj ≤ c1 then pk z (ws.drop (q + 1)) (best m (ws.drop (q + 1 + 1))) (q - i + 1) (zz + cj) (q - i + 1) else pk z (ws.drop (q + 1)) (best m (ws.drop (q + 1 + 1))) (q - i + 1) c1 e1 from by have := HST2.out; rwa [if_neg (by rw [← HL.out]; exact hqe)] at this)
            clear HST2
            have HUP : q - i = 0 ∨ zz + cj ≤ c1 → ∀ nq, EnI w bc be m ws i cl el (.int .i64 z) (.int .i64 ((q : Int) + 1 + 1)) (((wr.drewN nq).setCell ⟨bc, i, none⟩ (.int .i64 (zz + cj))).setCell ⟨be, i, none⟩ (.int .i64 ((q : Int) + 1))) := fun hor nq => by
              have h3 := HST3.out
              rw [if_pos hor, show q - i + 1 = q + 1 - i by omega] at h3
              have hA := HAr.out.keep (w' := wr.drewN nq) (by simp)
              have hB := HBr.out.keep (w' := wr.drewN nq) (by simp)
              refine ⟨q + 1, z, _, _, zz + cj, (q : Int) + 1, by omega, by have := HL.out; omega, rfl, by simp, (HXr.out.drewN nq).setCell (p := ⟨bc, i, none⟩) hbc' _ |>.setCell (p := ⟨be, i, none⟩) hbe' _, ?_, ?_, fun _ => ⟨rfl, by omega⟩, fun h => by omega, hz1, by omega, h3⟩
              · have := (hA.set i (zz + cj)).other (a := ⟨be, i, none⟩) hne (.int .i64 ((q : Int) + 1))
                rwa [List.set_set] at this
              · have := (hB.other (a := ⟨bc, i, none⟩) (Ne.symm hne) (.int .i64 (zz + cj))).set i ((q : Int) + 1)
                rwa [List.set_set] at this
            by_cases hqi : i = q
            · have HUP1 := Lib.hid (HUP (.inl (by omega)))
              subst hqi
              clear HUP hs0
              go_wp2_with fail
              go_quiet (fail)
              go_wp2_with fail
              go_roundw
              case rel => exact HUP1.out _
              case measure => simp only [toM]; omega
            · have hiq' : i < q := by omega
              obtain ⟨e5, e6⟩ := HXY.out hiq'
              have hqI2 : ((q : Int) + 1 == (i : Int) + 1) = false := by rw [beq_eq_false_iff_ne]; omega
              have hw1 : IntKind.i64.wrap ((i : Int) + 1) = (i : Int) + 1 := IntWalk.i64_in _ (by omega)
              have hw2 : IntKind.i64.wrap zz = zz := IntWalk.i64_in _ (by omega)
              have hw3 : IntKind.i64.wrap (zz + cj) = zz + cj := IntWalk.i64_in _ (by omega)
              by_cases hle : zz + cj ≤ x
              · have HUP1 := Lib.hid (HUP (.inr (by omega)))
                clear HUP hs0 e5 e6
                go_wp2_with fail
                go_quiet (fail)
                go_wp2_with fail
                go_roundw
                case rel => exact HUP1.out _
                case measure => simp only [toM]; omega
              · have HNO : ∀ nq, EnI w bc be m ws i cl el (.int .i64 z) (.int .i64 ((q : Int) + 1 + 1)) (wr.drewN nq) := fun nq => by
                  have h3 := HST3.out
                  rw [if_neg (by omega), show q - i + 1 = q + 1 - i by omega] at h3
                  exact ⟨q + 1, z, _, _, x, y, by omega, by have := HL.out; omega, rfl, by simp, HXr.out.drewN nq, HAr.out.keep (w' := wr.drewN nq) (by simp), HBr.out.keep (w' := wr.drewN nq) (by simp), fun _ => ⟨e5, e6⟩, fun h => by omega, hz1, by omega, h3⟩
                have HNO1 := Lib.hid HNO
                have hle' : x < zz + cj := by omega
                clear HUP hs0 e5 e6 HNO
                go_wp2_with fail
                go_quiet (fail)
                go_wp2_with fail
                go_roundw
                case rel => exact HNO1.out _
                case measure => simp only [toM]; omega
end
end Go.Proofs.YtdbnddmncbjobaaGreatDoor