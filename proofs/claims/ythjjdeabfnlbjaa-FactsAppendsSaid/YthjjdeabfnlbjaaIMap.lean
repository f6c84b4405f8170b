/- A map keyed by int that lies in one block, known entry by entry: what a look-up, a store, a range and its steps do. -/
import Derived.WalkKit
import Derived.Maps.RangeWalk
import Derived.Maps.OwnOps
import Derived.Maps.Own
import Derived.Deep.Draws
namespace Go.Proofs.Ythjjdeabfnlbjaa
open Go Go.RowKit Go.MapKept
open Go.ChangeMaps (setBlock)

namespace IM
def entsFrom : Nat → List (Int × Value) → List MapEntry
  | _, [] => []
  | c, p :: r => { key := .int .i64 p.1, val := p.2, born := c } :: entsFrom (c + 1) r
def findI : List (Int × Value) → Int → Nat → Option (Nat × Value)
  | [], _, _ => none
  | p :: r, k, i => if k = p.1 then some (i, p.2) else findI r k (i + 1)
def get : List (Int × Value) → Int → Option Value
  | [], _ => none
  | p :: r, k => if k = p.1 then some p.2 else get r k
def put : List (Int × Value) → Int → Value → List (Int × Value)
  | [], k, v => [(k, v)]
  | p :: r, k, v => if k = p.1 then (k, v) :: r else p :: put r k v

theorem findI_get (es : List (Int × Value)) (k : Int) : ∀ i, (findI es k i).map (·.2) = get es k := by
  induction es with
  | nil => intro i; rfl
  | cons p r ih => intro i; simp only [findI, get]; split <;> simp [ih]
theorem get_put (es : List (Int × Value)) (k : Int) (v : Value) (k' : Int) : get (put es k v) k' = if k' = k then some v else get es k' := by
  induction es with
  | nil => simp [put, get]
  | cons p r ih =>
    simp only [put]
    by_cases h : k = p.1
    · subst h; simp only [if_true, get]; split <;> rfl
    · simp only [if_neg h, get, ih]
      by_cases h1 : k' = p.1
      · have : ¬ k' = k := fun e => h (e.symm.trans h1)
        simp [h1]
        intro e; exact absurd e.symm h
      · simp only [if_neg h1]
theorem keys_put (es : List (Int × Value)) (k : Int) (v : Value) (x : Int) : x ∈ (put es k v).map (·.1) ↔ x = k ∨ x ∈ es.map (·.1) := by
  induction es with
  | nil => simp [put]
  | cons p r ih =>
    simp only [put]
    by_cases h : k = p.1
    · subst h; simp
    · simp only [if_neg h, List.map_cons, List.mem_cons, ih]
      constructor <;> (rintro (h | h | h) <;> simp [h])
theorem nodup_put (es : List (Int × Value)) (k : Int) (v : Value) (h : (es.map (·.1)).Nodup) : ((put es k v).map (·.1)).Nodup := by
  induction es with
  | nil => simp [put]
  | cons p r ih =>
    simp only [put]
    rw [List.map_cons, List.nodup_cons] at h
    by_cases hk : k = p.1
    · subst hk; simpa using h
    · rw [if_neg hk, List.map_cons, List.nodup_cons]
      exact ⟨fun hm => by rcases (keys_put r k v p.1).1 hm with e | e; exact hk e.symm; exact h.1 e, ih h.2⟩
theorem get_mem {es : List (Int × Value)} (h : (es.map (·.1)).Nodup) (k : Int) (v : Value) : get es k = some v ↔ (k, v) ∈ es := by
  induction es with
  | nil => simp [get]
  | cons p r ih =>
    rw [List.map_cons, List.nodup_cons] at h
    simp only [get, List.mem_cons]
    by_cases hk : k = p.1
    · subst hk
      rw [if_pos rfl]
      constructor
      · intro e; left; cases e; rfl
      · rintro (e | e)
        · rw [← e]
        · exact absurd (List.mem_map.2 ⟨_, e, rfl⟩) h.1
    · rw [if_neg hk, ih h.2]
      constructor
      · intro e; exact .inr e
      · rintro (e | e)
        · exact absurd (congrArg Prod.fst e) hk
        · exact e

theorem ents_len (es : List (Int × Value)) : ∀ c, (entsFrom c es).length = es.length := by
  induction es with
  | nil => intro c; rfl
  | cons p r ih => intro c; simp [entsFrom, ih]
theorem ents_get (es : List (Int × Value)) : ∀ c i : Nat, (entsFrom c es)[i]? = es[i]?.map fun p => ({ key := .int .i64 p.1, val := p.2, born := c + i } : MapEntry) := by
  induction es with
  | nil => intro c i; rfl
  | cons p r ih =>
    intro c i
    cases i with
    | zero => rfl
    | succ i => simp only [entsFrom, List.getElem?_cons_succ, ih]; rw [show c + 1 + i = c + (i + 1) by omega]
theorem findNow_ents (k : Int) (es : List (Int × Value)) : ∀ c i, Instr.findNow (.int .i64) (.int .i64 k) (entsFrom c es) i = some (findI es k i) := by
  induction es with
  | nil => intro c i; rfl
  | cons p r ih =>
    intro c i
    simp only [entsFrom, Instr.findNow, Instr.sameNow, if_true, findI]
    by_cases h : k = p.1
    · simp [h]
    · have : (k == p.1) = false := by simpa using h
      simp [this, h, ih]
theorem put_some (k : Int) (v : Value) (es : List (Int × Value)) : ∀ c i j u, findI es k i = some (j, u) → ∃ m, j = i + m ∧ m < es.length ∧
    (entsFrom c es).modify m (fun e => { e with key := .int .i64 k, val := v }) = entsFrom c (put es k v) ∧ (put es k v).length = es.length ∧ (es[m]?.map (·.1)) = some k := by
  induction es with
  | nil => intro c i j u h; simp [findI] at h
  | cons p r ih =>
    intro c i j u h
    simp only [findI] at h
    by_cases hk : k = p.1
    · rw [if_pos hk] at h
      injection h with h
      injection h with h1 h2
      exact ⟨0, by omega, by simp, by simp [entsFrom, put, hk], by simp [put, hk], by simp [hk]⟩
    · rw [if_neg hk] at h
      obtain ⟨m, h1, h2, h3, h4, h5⟩ := ih (c + 1) (i + 1) j u h
      exact ⟨m + 1, by omega, by simp; omega, by simp only [entsFrom, put, if_neg hk, List.modify_succ_cons, h3], by simp [put, if_neg hk, h4], by simpa using h5⟩
theorem put_none (k : Int) (v : Value) (es : List (Int × Value)) : ∀ c i, findI es k i = none →
    entsFrom c es ++ [{ key := .int .i64 k, val := v, born := c + es.length }] = entsFrom c (put es k v) ∧ (put es k v).length = es.length + 1 := by
  induction es with
  | nil => intro c i _; exact ⟨rfl, rfl⟩
  | cons p r ih =>
    intro c i h
    simp only [findI] at h
    by_cases hk : k = p.1
    · rw [if_pos hk] at h; cases h
    · rw [if_neg hk] at h
      obtain ⟨h1, h2⟩ := ih (c + 1) (i + 1) h
      refine ⟨?_, by simp [put, if_neg hk, h2]⟩
      simp only [put, if_neg hk, entsFrom, List.cons_append, List.length_cons, ← h1]
      rw [show c + 1 + r.length = c + (r.length + 1) by omega]
end IM

/-- Block b is a map keyed by int whose entries are es, in the order in which they were laid. -/
def IMp (w : World) (b : Nat) (es : List (Int × Value)) : Prop := w.heap[b]? = some (.map (IM.entsFrom 0 es).toArray es.length)

theorem IMp.made (w : World) : IMp (w.alloc (.map #[] 0)) w.heap.size [] := heap_alloc_new w _
theorem IMp.lt {w : World} {b : Nat} {es : List (Int × Value)} (h : IMp w b es) : b < w.heap.size := lt_of_block h
theorem IMp.grown {w w' : World} {b : Nat} {es : List (Int × Value)} {row : Option Nat} (h : IMp w b es) (hg : w.grownBy w' row) (hr : some b ≠ row) : IMp w' b es := (hg.block b h.lt hr).trans h
theorem IMp.below {w w' : World} {b B : Nat} {es : List (Int × Value)} (h : IMp w b es) (hb : Below B w w') (hB : b < B) : IMp w' b es := (hb.block b hB).trans h
theorem IMp.alloc {w : World} {b : Nat} {es : List (Int × Value)} (h : IMp w b es) (o : Obj) : IMp (w.alloc o) b es := (Below.heap_alloc w o b h.lt).trans h
theorem IMp.drewN {w : World} {b : Nat} {es : List (Int × Value)} (h : IMp w b es) (n : Nat) : IMp (w.drewN n) b es := h
theorem IMp.setCell {w : World} {b : Nat} {es : List (Int × Value)} (h : IMp w b es) {p : Addr} (u : Value) : IMp (w.setCell p u) b es := by
  by_cases hp : b = p.block
  · unfold IMp at *
    rw [World.setCell]
    simp only [Array.getElem?_modify]
    subst hp
    rw [if_pos rfl, h]; rfl
  · exact (Below.heap_setCell w p u b hp).trans h

section
variable {P : Program} {w : World} {b : Nat} {es : List (Int × Value)} {t kt et : TypeId}
theorem run_lookup_im (h : IMp w b es) (ht : P.underlying t = some (.map kt et)) (hk : P.underlying kt = some (.int .i64)) {z : Value} (hz : (zeroValue et).run P w = .ok z w) (k : Int) (ok : Bool) :
    (Instr.lookup t (.map (some b)) (.int .i64 k) ok).run P w = .ok (if ok then .tuple #[(IM.get es k).getD z, .bool (IM.get es k).isSome] else (IM.get es k).getD z) w := by
  have hf := run_findKey (P := P) (w := w) (kt := kt) hk (IM.findNow_ents k es 0 0)
  have hc := run_checkKey (P := P) (w := w) (kt := kt) (d := .int .i64) (k := .int .i64 k) hk rfl (IM.entsFrom 0 es).toArray.isEmpty 9999
  have hg := IM.findI_get es k 0
  simp only [Instr.lookup, Sem.run_bind, run_underlying ht, Result.andThen, Sem.run_pure, MapKept.run_getObj_map h]
  rw [hc]
  simp only [hf]
  rw [← hg]
  cases hfi : IM.findI es k 0 with
  | none => simp [hz, Result.andThen]
  | some p => simp
theorem run_update_im (h : IMp w b es) (ht : P.underlying t = some (.map kt et)) (hk : P.underlying kt = some (.int .i64)) (k : Int) (v : Value) :
    ∃ w', (Instr.mapUpdate t (.map (some b)) (.int .i64 k) v).run P w = .ok () w' ∧ IMp w' b (IM.put es k v) ∧ w.grownBy w' (some b) := by
  have hf := run_findKey (P := P) (w := w) (kt := kt) hk (IM.findNow_ents k es 0 0)
  have hc := run_checkKey (P := P) (w := w) (kt := kt) (d := .int .i64) (k := .int .i64 k) hk rfl false 9999
  have hw : ∀ o, w.grownBy (setBlock w b o) (some b) := fun o => ⟨rfl, rfl, rfl, by simp [setBlock], fun i hi hne => by
    show (w.heap.setIfInBounds b o)[i]? = _
    rw [Array.getElem?_setIfInBounds_ne (fun e => hne (by rw [e]))]⟩
  have hn : ∀ o, (setBlock w b o).heap[b]? = some o := fun o => by
    show (w.heap.setIfInBounds b o)[b]? = _
    simp [h.lt]
  simp only [Instr.mapUpdate, Sem.run_bind, run_underlying ht, Result.andThen, MapKept.run_getObj_map h]
  rw [hc]
  simp only [hf]
  cases hfi : IM.findI es k 0 with
  | none =>
    obtain ⟨h1, h2⟩ := IM.put_none k v es 0 0 hfi
    refine ⟨setBlock w b (.map (IM.entsFrom 0 (IM.put es k v)).toArray (IM.put es k v).length), ?_, hn _, hw _⟩
    simp only [MapKept.run_setObj_map _ h]
    rw [h2, ← h1]
    simp [setBlock]
  | some p =>
    obtain ⟨j, u⟩ := p
    obtain ⟨m, h1, h2, h3, h4, h5⟩ := IM.put_some k v es 0 0 j u hfi
    obtain rfl : j = m := by omega
    have hkey : (((IM.entsFrom 0 es).toArray[j]?).map (·.key)).getD (.int .i64 k) = .int .i64 k := by
      rw [List.getElem?_toArray, IM.ents_get]
      cases hm : es[j]? with
      | none => rfl
      | some q => rw [hm] at h5; simp at h5; simp [h5]
    refine ⟨setBlock w b (.map (IM.entsFrom 0 (IM.put es k v)).toArray (IM.put es k v).length), ?_, hn _, hw _⟩
    simp only [hkey, Sem.run_bind, run_keyThatStays (d := .int .i64) (k := .int .i64 k) rfl, Result.andThen, MapKept.run_setObj_map _ h]
    rw [h4, ← h3]
    simp [setBlock]

theorem IM.ents_born (es : List (Int × Value)) : ∀ c, (∀ x ∈ IM.entsFrom c es, c ≤ x.born ∧ x.born < c + es.length) ∧ ((IM.entsFrom c es).map (·.born)).Nodup := by
  induction es with
  | nil => intro c; exact ⟨by simp [IM.entsFrom], by simp [IM.entsFrom]⟩
  | cons p r ih =>
    intro c
    obtain ⟨h1, h2⟩ := ih (c + 1)
    refine ⟨?_, ?_⟩
    · intro x hx
      simp only [IM.entsFrom, List.mem_cons] at hx
      rcases hx with rfl | hx
      · simp
      · have := h1 x hx; simp; omega
    · simp only [IM.entsFrom, List.map_cons, List.nodup_cons]
      refine ⟨fun hm => ?_, h2⟩
      obtain ⟨x, hx, he⟩ := List.mem_map.1 hm
      have := h1 x hx
      omega

/-- Block r is an iterator over the map in block b, which has handed out the entries with the numbers 'seen'. -/
def IIt (w : World) (r b : Nat) (n : Nat) (seen : List Nat) : Prop := w.heap[r]? = some (.mapIter (some b) n seen.toArray n)

theorem IIt.lt {r n : Nat} {seen : List Nat} (h : IIt w r b n seen) : r < w.heap.size := lt_of_block h
theorem IIt.grown {w' : World} {r n : Nat} {seen : List Nat} {row : Option Nat} (h : IIt w r b n seen) (hg : w.grownBy w' row) (hr : some r ≠ row) : IIt w' r b n seen := (hg.block r h.lt hr).trans h
theorem IIt.below {w' : World} {r n B : Nat} {seen : List Nat} (h : IIt w r b n seen) (hb : Below B w w') (hB : r < B) : IIt w' r b n seen := (hb.block r hB).trans h
theorem IIt.alloc {r n : Nat} {seen : List Nat} (h : IIt w r b n seen) (o : Obj) : IIt (w.alloc o) r b n seen := (Below.heap_alloc w o r h.lt).trans h
theorem IIt.drewN {r n : Nat} {seen : List Nat} (h : IIt w r b n seen) (k : Nat) : IIt (w.drewN k) r b n seen := h

theorem run_range_im (h : IMp w b es) (ht : P.underlying t = some (.map kt et)) :
    (Instr.range t (.map (some b))).run P w = .ok (.pointer (some ⟨w.heap.size, 0, none⟩)) (w.alloc (.mapIter (some b) es.length #[] es.length)) :=
  run_range_map w t kt et b _ _ ht h
theorem IIt.made (w : World) (b n : Nat) : IIt (w.alloc (.mapIter (some b) n #[] n)) w.heap.size b n [] := heap_alloc_new w _

theorem run_next_im {r : Nat} {seen : List Nat} (h : IMp w b es) (hi : IIt w r b es.length seen) (ty : TypeId) :
    ((∀ i, i < es.length → i ∈ seen) ∧ (Instr.next (.pointer (some ⟨r, 0, none⟩)) false ty).run P w = .ok (.tuple #[.bool false]) w) ∨
    ∃ (i : Nat) (p : Int × Value) (w1 : World), es[i]? = some p ∧ i ∉ seen ∧ (Instr.next (.pointer (some ⟨r, 0, none⟩)) false ty).run P w = .ok (.tuple #[.bool true, .int .i64 p.1, p.2]) w1 ∧
      IIt w1 r b es.length (seen ++ [i]) ∧ w.grownBy w1 (some r) ∧ w1.heap.size = w.heap.size ∧ (Instr.entry (.pointer (some ⟨r, 0, none⟩))).run P w1 = .ok (.tuple #[.int .i64 p.1, p.2]) w1 := by
  obtain ⟨hb1, hb2⟩ := IM.ents_born es 0
  have hne : r ≠ b := fun e => by subst e; unfold IMp at h; unfold IIt at hi; rw [h] at hi; cases hi
  have hmem : ∀ i, i < es.length → ∃ x ∈ IM.entsFrom 0 es, x.born = i := fun i hlt => by
    have hg := IM.ents_get es 0 i
    rw [List.getElem?_eq_getElem hlt] at hg
    exact ⟨_, List.mem_of_getElem? hg, by simp⟩
  rcases run_next_at (P := P) w ty r b es.length es.length seen.toArray (IM.entsFrom 0 es).toArray es.length hi h (fun x hx => by have := hb1 x (by simpa using hx); omega) (Nat.le_refl _) with ⟨h0, hrun⟩ | ⟨e, he, w1, hw1, hrun⟩
  · refine .inl ⟨fun i hlt => ?_, hrun⟩
    obtain ⟨x, hx, hxb⟩ := hmem i hlt
    have := all_seen _ _ h0 x (by simpa using hx)
    rw [hxb] at this
    simpa using this
  · obtain ⟨hel, hes⟩ := mem_left he
    have hel' : e ∈ IM.entsFrom 0 es := by simpa using hel
    obtain ⟨i, hi1, hi2⟩ := List.mem_iff_getElem.1 hel'
    rw [IM.ents_len] at hi1
    have hg := IM.ents_get es 0 i
    rw [List.getElem?_eq_getElem hi1, List.getElem?_eq_getElem (by rw [IM.ents_len]; exact hi1), hi2] at hg
    simp only [Option.map_some, Nat.zero_add, Option.some.injEq] at hg
    have hgr : ∀ o : Obj, w.grownBy (setBlock w1 r o) (some r) := fun o => by
      have hh : w1.heap = w.heap ∧ w1.os = w.os ∧ w1.tape = w.tape ∧ w1.output = w.output := by rcases hw1 with rfl | rfl <;> exact ⟨rfl, rfl, rfl, rfl⟩
      refine ⟨hh.2.1, hh.2.2.1, hh.2.2.2, by simp [setBlock, hh.1], fun k hk hk' => ?_⟩
      show (w1.heap.setIfInBounds r o)[k]? = _
      rw [Array.getElem?_setIfInBounds_ne (fun e => hk' (by rw [e])), hh.1]
    have hsz : ∀ o : Obj, (setBlock w1 r o).heap.size = w.heap.size := fun o => by rcases hw1 with rfl | rfl <;> simp [setBlock]
    have hnew : ∀ o : Obj, (setBlock w1 r o).heap[r]? = some o := fun o => by
      show (w1.heap.setIfInBounds r o)[r]? = _
      have : r < w1.heap.size := by rcases hw1 with rfl | rfl <;> exact hi.lt
      simp [this]
    have hkey : e.key = .int .i64 es[i].1 := by rw [hg]
    have hval : e.val = es[i].2 := by rw [hg]
    have hborn : e.born = i := by rw [hg]
    refine .inr ⟨i, es[i], _, List.getElem?_eq_getElem hi1, fun hm => ?_, by rw [← hkey, ← hval]; exact hrun, ?_, hgr _, hsz _, ?_⟩
    · rw [hborn] at hes
      have : seen.toArray.contains i = true := by simpa using hm
      rw [this] at hes; cases hes
    · have := hnew (.mapIter (some b) es.length (seen.toArray.push e.born) es.length)
      unfold IIt
      rw [this, hborn]; simp
    · have hbm : (setBlock w1 r (.mapIter (some b) es.length (seen.toArray.push e.born) es.length)).heap[b]? = some (.map (IM.entsFrom 0 es).toArray es.length) :=
        ((hgr _).block b h.lt (fun e => hne (by injection e with e; exact e.symm))).trans h
      rw [run_entry_at (P := P) _ r b es.length seen.toArray (IM.entsFrom 0 es).toArray es.length e (hnew _) hbm (by simpa using hel') (by simpa using hb2), hkey, hval]
end
end Go.Proofs.Ythjjdeabfnlbjaa
