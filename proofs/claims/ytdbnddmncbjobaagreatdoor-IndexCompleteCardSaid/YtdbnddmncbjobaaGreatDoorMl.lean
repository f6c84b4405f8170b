/- Further texts of the claim, merged. -/
import Derived.Test.YtdbnddmncbjobaaGreatDoorMk
namespace Go.Proofs.YtdbnddmncbjobaaGreatDoor
theorem find_mem {T : Tb} {k : List UInt8} {l : List Ct} (h : findP T k = some l) : (k, l) ∈ T := by
  unfold findP at h
  cases hf : T.find? fun x => x.1 == k with
  | none => rw [hf] at h; cases h
  | some x =>
    rw [hf] at h
    have h1 := List.find?_some hf
    have h2 := List.mem_of_find?_eq_some hf
    simp only [Option.map_some, Option.some.injEq] at h
    have h3 : x.1 = k := by simpa using h1
    obtain ⟨a, b⟩ := x
    simp only at h h3
    subst h h3
    exact h2
theorem find_has {T : Tb} (hT : Reg T) {k : List UInt8} {l : List Ct} (h : findP T k = some l) (c : Ct) : c ∈ l ↔ Has T k c := (hT.at (find_mem h) c).symm
theorem find_none {T : Tb} {k : List UInt8} (h : findP T k = none) (l : List Ct) : (k, l) ∉ T := fun hm => by
  unfold findP at h
  cases hf : T.find? fun x => x.1 == k with
  | none => have := List.find?_eq_none.1 hf _ hm; simp at this
  | some x => rw [hf] at h; cases h
theorem find_of {T : Tb} (hT : Reg T) {k : List UInt8} {l : List Ct} (h : (k, l) ∈ T) : findP T k = some l := by
  cases hf : findP T k with
  | none => exact absurd h (find_none hf l)
  | some l' => rw [keys_one hT.keys (find_mem hf) h]
theorem find_is {T : Tb} (hT : Reg T) (k : List UInt8) : (findP T k).isSome = true ↔ ∃ c, Has T k c := by
  constructor
  · intro h
    obtain ⟨l, hl⟩ := Option.isSome_iff_exists.1 h
    have hm := find_mem hl
    obtain ⟨c, hc⟩ := List.exists_mem_of_ne_nil _ (hT.some _ hm)
    exact ⟨c, l, hm, hc⟩
  · rintro ⟨c, l, hm, _⟩
    rw [find_of hT hm]; rfl
theorem mem_plc {T : Tb} (hT : Reg T) (k : List UInt8) (c : Ct) : c ∈ plc T k ↔ Has T k c := by
  unfold plc
  cases hf : findP T k with
  | none => exact ⟨fun h => (by simp at h), fun ⟨l, hm, _⟩ => absurd hm (find_none hf l)⟩
  | some l => exact find_has hT hf c
end Go.Proofs.YtdbnddmncbjobaaGreatDoor
namespace Go.Proofs.YtdbnddmncbjobaaGreatDoor
theorem find_first {α : Type} {p : α → Bool} : ∀ {l : List α} {i : Nat} {x : α}, l[i]? = some x → p x = true → (∀ (j : Nat) (y : α), l[j]? = some y → p y = true → j = i) → l.find? p = some x
  | [], _, _, h, _, _ => by simp at h
  | a :: l, i, x, h, hx, hu => by
    rw [List.find?_cons]
    cases ha : p a with
    | true =>
      have := hu 0 a rfl ha
      subst this
      simp only [List.getElem?_cons_zero] at h
      exact h
    | false =>
      cases i with
      | zero =>
        simp only [List.getElem?_cons_zero, Option.some.injEq] at h
        subst h; rw [hx] at ha; cases ha
      | succ i => exact find_first (l := l) (i := i) (by simpa using h) hx fun j y hj hy => by have := hu (j + 1) y (by simpa using hj) hy; omega
theorem nodup_at {α : Type} {l : List α} (h : l.Nodup) {i j : Nat} {x : α} (hi : l[i]? = some x) (hj : l[j]? = some x) : i = j := by
  obtain ⟨a, ha⟩ := List.getElem?_eq_some_iff.1 hi
  obtain ⟨b, hb⟩ := List.getElem?_eq_some_iff.1 hj
  rcases Nat.lt_trichotomy i j with h9 | h9 | h9
  · have := (List.pairwise_iff_getElem.1 h) i j a b h9
    exact absurd (ha.trans hb.symm) this
  · exact h9
  · have := (List.pairwise_iff_getElem.1 h) j i b a h9
    exact absurd (hb.trans ha.symm) this
theorem textB_at {b : Bk} (hn : (b.secs.map (·.ent)).Nodup) {x : Se} (hx : x ∈ b.secs) (hv : x.vers.Nodup) {k : Nat} {v : Int} {t : Tx} (h1 : x.vers[k]? = some v) (h2 : x.texts[k]? = some t) : textB b x.ent v = some t := by
  obtain ⟨i, hi⟩ := List.getElem?_of_mem hx
  have f1 : b.secs.find? (fun y => y.ent == x.ent) = some x := find_first hi (by simp) fun j y hj hy => by
    have hy' : y.ent = x.ent := by simpa using hy
    exact nodup_at hn (x := x.ent) (by rw [List.getElem?_map, hj, ← hy']; rfl) (by rw [List.getElem?_map, hi]; rfl)
  have f2 : (x.vers.zip x.texts).find? (fun q => q.1 == v) = some (v, t) := find_first (i := k) (by rw [List.getElem?_zip_eq_some]; exact ⟨h1, h2⟩) (by simp) fun j y hj hy => by
    rw [List.getElem?_zip_eq_some] at hj
    have hy' : y.1 = v := by simpa using hy
    exact nodup_at hv (x := v) (by rw [hj.1, hy']) h1
  unfold textB
  rw [f1, Option.bind_some, f2]
  rfl
end Go.Proofs.YtdbnddmncbjobaaGreatDoor
namespace Go.Proofs.YtdbnddmncbjobaaGreatDoor
theorem lineAt_spec (word : Int) : ∀ (l : List Ln) (i k : Nat), lineAt word l i = some k → i < k ∧ k ≤ i + l.length ∧ ∃ x, l[k - 1 - i]? = some x ∧ x.fr ≤ word ∧ word < x.un := by
  intro l
  induction l with
  | nil => intro i k h; simp [lineAt] at h
  | cons x r ih =>
    intro i k h
    simp only [lineAt] at h
    split at h
    · next hc =>
      injection h with h
      subst h
      exact ⟨by omega, by simp, x, by simp, hc⟩
    · obtain ⟨h1, h2, y, h3, h4⟩ := ih (i + 1) k h
      refine ⟨by omega, by simp; omega, y, ?_, h4⟩
      rw [show k - 1 - i = (k - 1 - (i + 1)) + 1 by omega]
      simpa using h3
theorem whereG_spec (e v w : Int) : ∀ (l : List Pg) (n s : Int) (i : Nat), whereG e v w l = some (n, s, i) → ∃ p ∈ l, p.num = n ∧ p.suf = s ∧ p.ent = e ∧ p.ver = v ∧ lineAt w (p.body ++ p.nts) 0 = some i := by
  intro l
  induction l with
  | nil => intro n s i h; simp [whereG] at h
  | cons p r ih =>
    intro n s i h
    simp only [whereG] at h
    split at h
    · obtain ⟨q, hq, h1⟩ := ih n s i h
      exact ⟨q, by simp [hq], h1⟩
    · next hc =>
      split at h
      · next k hk =>
        injection h with h
        injection h with e1 h
        injection h with e2 e3
        exact ⟨p, by simp, e1, e2, by omega, by omega, by rw [hk, e3]⟩
      · obtain ⟨q, hq, h1⟩ := ih n s i h
        exact ⟨q, by simp [hq], h1⟩
/-- The place of a word: the page, and the line. -/
theorem where_page {b : Bk} {K V : Nat} (hk : ∀ x ∈ b.secs, PgsOk b.ms b.ht K x.texts ∧ x.texts.length ≤ V) {e v w n s : Int} {i : Nat} (h : whereP b e v w = some (n, s, i)) :
    ∃ p ∈ pagesB b, pageP b n s = some p ∧ p.ent = e ∧ p.ver = v ∧ 1 ≤ n ∧ n ≤ (K * b.secs.length : Nat) ∧ 0 ≤ s ∧ s ≤ (K * V : Nat) ∧ 1 ≤ i ∧ i ≤ (p.body ++ p.nts).length ∧ ∃ x, (p.body ++ p.nts)[i - 1]? = some x ∧ x.fr ≤ w ∧ w < x.un := by
  obtain ⟨p, hp, rfl, rfl, h1, h2, h3⟩ := whereG_spec e v w _ n s i h
  obtain ⟨g1, g2⟩ := pagesS_ok b.ms b.ht K V b.secs 0 hk
  have := g1 p hp
  obtain ⟨l1, l2, x, l3, l4⟩ := lineAt_spec w _ 0 i h3
  exact ⟨p, hp, find_lab _ g2 p hp, h1, h2, by omega, by omega, by omega, by omega, by omega, by omega, x, by simpa using l3, l4⟩
end Go.Proofs.YtdbnddmncbjobaaGreatDoor
namespace Go.Proofs.YtdbnddmncbjobaaGreatDoor
open Go Go.RowKit Go.Shelf
attribute [local go_sem] Oper.semAt_some
variable {β : Type}
theorem whereG_app (e v wd : Int) : ∀ (X R : List Pg), whereG e v wd X = none → whereG e v wd (X ++ R) = whereG e v wd R := by
  intro X
  induction X with
  | nil => intro R _; rfl
  | cons p X ih =>
    intro R h
    simp only [List.cons_append, whereG] at h ⊢
    split at h
    · next hp => rw [if_pos hp]; exact ih R h
    · next hp =>
      rw [if_neg hp]
      split at h
      · cases h
      · next hl => exact ih R h
def WherePost (w : World) (b : Bk) (e v wd : Int) (z : Ending) (w' : World) : Prop :=
  (whereP b e v wd = none ∧ z = .returned (.tuple #[.agg #[.int .i64 0, .int .i64 0], .int .i64 0, .bool false]) ∧ Ext w w') ∨
  ∃ (n s : Int) (i : Nat), whereP b e v wd = some (n, s, i) ∧ z = .returned (.tuple #[.agg #[.int .i64 n, .int .i64 s], .int .i64 i, .bool true]) ∧ Ext w w'
theorem own_row_all {k : Lay β} {e : TypeId} {W : World} {base : Nat} {P : Nat → Prop} {A : Option Addr} {m c : Nat} {xs : List β} (hm : xs.length = m) (h : k.own e W base P (.slice A m c) xs) : k.row W (fun _ => True) A m xs := by
  obtain ⟨A', c', e1, _, h2⟩ := Lay.own_row h
  obtain ⟨e2, _, _⟩ := Value.slice.inj e1
  subst e2 hm
  exact Lay.row_mono h2 fun _ _ _ => trivial
/-- A label, a number and a bool are stored. -/
structure St4 (W Y : World) (z4 z5 z6 : Nat) (v0 v1 v2 v3 : Value) : Prop where
  size : Y.heap.size = W.heap.size
  keep : ∀ j, j ≠ z4 → j ≠ z5 → j ≠ z6 → Y.heap[j]? = W.heap[j]?
  ext : ∀ a : World, a.heap.size ≤ z4 → a.heap.size ≤ z5 → a.heap.size ≤ z6 → Ext a W → Ext a Y
  h4 : Y.heap[z4]? = some (.cells #[v0, v1] 64 (0, 0))
  h5 : Y.heap[z5]? = some (.cells #[v2] 3 (0, 0))
  h6 : Y.heap[z6]? = some (.cells #[v3] 4 (0, 0))
theorem st4 {W : World} {z4 z5 z6 : Nat} (n45 : z4 ≠ z5) (n46 : z4 ≠ z6) (n56 : z5 ≠ z6) {a0 a1 x y : Value} (h4 : W.heap[z4]? = some (.cells #[a0, a1] 64 (0, 0))) (h5 : W.heap[z5]? = some (.cells #[x] 3 (0, 0))) (h6 : W.heap[z6]? = some (.cells #[y] 4 (0, 0))) (v0 v1 v2 v3 : Value) :
    St4 W ((((W.setCell ⟨z4, 0, none⟩ v0).setCell ⟨z4, 1, none⟩ v1).setCell ⟨z5, 0, none⟩ v2).setCell ⟨z6, 0, none⟩ v3) z4 z5 z6 v0 v1 v2 v3 := by
  have g5 : ((W.setCell ⟨z4, 0, none⟩ v0).setCell ⟨z4, 1, none⟩ v1).heap[z5]? = some (.cells #[x] 3 (0, 0)) := by
    rw [heap_setCell_other _ ⟨z4, 1, none⟩ z5 _ n45.symm, heap_setCell_other _ ⟨z4, 0, none⟩ z5 _ n45.symm]; exact h5
  have g6 : (((W.setCell ⟨z4, 0, none⟩ v0).setCell ⟨z4, 1, none⟩ v1).setCell ⟨z5, 0, none⟩ v2).heap[z6]? = some (.cells #[y] 4 (0, 0)) := by
    rw [heap_setCell_other _ ⟨z5, 0, none⟩ z6 _ n56.symm, heap_setCell_other _ ⟨z4, 1, none⟩ z6 _ n46.symm, heap_setCell_other _ ⟨z4, 0, none⟩ z6 _ n46.symm]; exact h6
  refine ⟨by simp, fun j k4 k5 k6 => ?_, fun a l4 l5 l6 hx => ?_, ?_, ?_, ?_⟩
  · rw [heap_setCell_other _ ⟨z6, 0, none⟩ j _ k6, heap_setCell_other _ ⟨z5, 0, none⟩ j _ k5, heap_setCell_other _ ⟨z4, 1, none⟩ j _ k4, heap_setCell_other _ ⟨z4, 0, none⟩ j _ k4]
  · exact ((((hx.setCell (p := ⟨z4, 0, none⟩) l4 _).setCell (p := ⟨z4, 1, none⟩) l4 _).setCell (p := ⟨z5, 0, none⟩) l5 _).setCell (p := ⟨z6, 0, none⟩) l6 _)
  · rw [heap_setCell_other _ ⟨z6, 0, none⟩ z4 _ n46, heap_setCell_other _ ⟨z5, 0, none⟩ z4 _ n45]
    exact heap_setCell_same _ z4 1 _ 64 _ (heap_setCell_same _ z4 0 _ 64 _ h4)
  · rw [heap_setCell_other _ ⟨z6, 0, none⟩ z5 _ n56]
    exact heap_setCell_same _ z5 0 _ 3 v2 g5
  · exact heap_setCell_same _ z6 0 _ 4 v3 g6
def WhL (W1 : World) (wd : Int) (L : List Ln) (s34 : Value) (w' : World) : Prop := ∃ i : Nat, i ≤ L.length ∧ s34 = .int .i64 i ∧ Ext W1 w' ∧ lineAt wd L 0 = lineAt wd (L.drop i) i
def WhAx (w : World) (z1 z2 z3 z4 z5 z6 z7 : Nat) (b : Bk) (e v wd : Int) (A : Option Addr) (N c : Nat) (x : PgV) (_ : Nat → Prop) (a' : Act) (W : World) : Prop :=
  ∃ Bx, w.heap.size + 10 < Bx ∧ W.heap[Bx]? = some (.cells (pgCells x.1 x.2.1.1 x.2.1.2.1 x.2.1.2.2 x.2.2.1 x.2.2.2.1 x.2.2.2.2) 84 (0, 0)) ∧
    a' = { tmps := #[.agg #[.int .i64 b.ms, .int .i64 b.ht, .slice A N c], .int .i64 e, .int .i64 v, .int .i64 wd, .pointer (some ⟨w.heap.size, 0, none⟩), .pointer (some ⟨z1, 0, none⟩), .pointer (some ⟨z2, 0, none⟩), .pointer (some ⟨z3, 0, none⟩), .pointer (some ⟨z4, 0, none⟩), .pointer (some ⟨z5, 0, none⟩), .pointer (some ⟨z6, 0, none⟩), .pointer (some ⟨Bx, 0, none⟩), undef, undef, .agg #[.int .i64 b.ms, .int .i64 b.ht, .slice A N c], .func (.func 126) #[] #[.pointer (some ⟨z7, 0, none⟩)], .agg (pgCells x.1 x.2.1.1 x.2.1.2.1 x.2.1.2.2 x.2.2.1 x.2.2.2.1 x.2.2.2.2), undef, undef, undef, undef, undef, undef, undef, undef, undef, undef, undef, undef, undef, undef, undef, undef, undef, undef, undef, undef, undef, undef, undef, undef, undef, undef, undef, undef, undef, undef, undef, undef, undef, undef, undef, undef, undef, undef], defers := [] }
set_option maxHeartbeats 4000000 in
set_option maxRecDepth 100000 in
theorem where_any (P : Nat → Prop) (w : World) (b : Bk) (e v wd : Int) (A : Option Addr) (N c : Nat) (hb : BkI b) (hr : kSe.row w P A N b.secs) (hL : EnvW w) :
    Calls Tryz.prog 33 #[.agg #[.int .i64 b.ms, .int .i64 b.ht, .slice A N c], .int .i64 e, .int .i64 v, .int .i64 wd] w (WherePost w b e v wd) := by
  refine (callsIn_wide (n := 5)).1 ?_
  refine callsIn_of_wp_marks Tryz.func33 rfl trivial ?_ rfl
  simp only [Tryz.ntmps33, List.size_toArray, List.length_cons, List.length_nil, Nat.reduceAdd, Nat.reduceSub, Array.replicate_succ, Array.replicate_zero, List.push_toArray, List.append_toArray, List.nil_append, List.cons_append]
  refine wpIn_wide.2 ?_
  go_wp2_with (first | (go_at_call 73; refine (all_any _ _ _ _ _ _).mono ?_; rintro e w' ⟨rfl, rfl⟩))
  obtain ⟨wl, hwl⟩ : ∃ wl, ((((((((w.alloc (Obj.cells #[Value.int IntKind.i64 b.ms, Value.int IntKind.i64 b.ht, Value.slice A N c] 27)).alloc (Obj.cells #[Value.int IntKind.i64 e] 3)).alloc (Obj.cells #[Value.int IntKind.i64 v] 3)).alloc (Obj.cells #[Value.int IntKind.i64 wd] 3)).alloc (Obj.cells #[Value.int IntKind.i64 0, Value.int IntKind.i64 0] 64)).alloc (Obj.cells #[Value.int IntKind.i64 0] 3)).alloc (Obj.cells #[Value.bool false] 4)).alloc (Obj.cells #[Value.int IntKind.i64 b.ms, Value.int IntKind.i64 b.ht, Value.slice A N c] 27)) = wl := ⟨_, rfl⟩
  obtain ⟨z7, hz7⟩ : ∃ z, w.heap.size + 1 + 1 + 1 + 1 + 1 + 1 + 1 = z := ⟨_, rfl⟩
  obtain ⟨z6, hz6⟩ : ∃ z, w.heap.size + 1 + 1 + 1 + 1 + 1 + 1 = z := ⟨_, rfl⟩
  obtain ⟨z5, hz5⟩ : ∃ z, w.heap.size + 1 + 1 + 1 + 1 + 1 = z := ⟨_, rfl⟩
  obtain ⟨z4, hz4⟩ : ∃ z, w.heap.size + 1 + 1 + 1 + 1 = z := ⟨_, rfl⟩
  obtain ⟨z3, hz3⟩ : ∃ z, w.heap.size + 1 + 1 + 1 = z := ⟨_, rfl⟩
  obtain ⟨z2, hz2⟩ : ∃ z, w.heap.size + 1 + 1 = z := ⟨_, rfl⟩
  obtain ⟨z1, hz1⟩ : ∃ z, w.heap.size + 1 = z := ⟨_, rfl⟩
  rw [hwl, hz7, hz6, hz5, hz4, hz3, hz2, hz1]
  have hsz : wl.heap.size = w.heap.size + 8 := by rw [← hwl]; simp
  have hxl : Ext w wl := by rw [← hwl]; exact ((((((((Ext.refl w).alloc _).alloc _).alloc _).alloc _).alloc _).alloc _).alloc _).alloc _
  have hB7 : wl.heap[w.heap.size + 7]? = some (.cells #[.int .i64 b.ms, .int .i64 b.ht, .slice A N c] 27 (0, 0)) := by rw [← hwl]; exact heap_alloc_at _ _ _ _ (by simp)
  have hB6 : wl.heap[w.heap.size + 6]? = some (.cells #[.bool false] 4 (0, 0)) := by rw [← hwl, heap_alloc_old _ _ _ (by simp)]; exact heap_alloc_at _ _ _ _ (by simp)
  have hB5 : wl.heap[w.heap.size + 5]? = some (.cells #[.int .i64 0] 3 (0, 0)) := by rw [← hwl, heap_alloc_old _ _ _ (by simp), heap_alloc_old _ _ _ (by simp)]; exact heap_alloc_at _ _ _ _ (by simp)
  have hB4 : wl.heap[w.heap.size + 4]? = some (.cells #[.int .i64 0, .int .i64 0] 64 (0, 0)) := by rw [← hwl, heap_alloc_old _ _ _ (by simp), heap_alloc_old _ _ _ (by simp), heap_alloc_old _ _ _ (by simp)]; exact heap_alloc_at _ _ _ _ (by simp)
  have hB3 : wl.heap[w.heap.size + 3]? = some (.cells #[.int .i64 wd] 3 (0, 0)) := by rw [← hwl, heap_alloc_old _ _ _ (by simp), heap_alloc_old _ _ _ (by simp), heap_alloc_old _ _ _ (by simp), heap_alloc_old _ _ _ (by simp)]; exact heap_alloc_at _ _ _ _ (by simp)
  have hB2 : wl.heap[w.heap.size + 2]? = some (.cells #[.int .i64 v] 3 (0, 0)) := by rw [← hwl, heap_alloc_old _ _ _ (by simp), heap_alloc_old _ _ _ (by simp), heap_alloc_old _ _ _ (by simp), heap_alloc_old _ _ _ (by simp), heap_alloc_old _ _ _ (by simp)]; exact heap_alloc_at _ _ _ _ (by simp)
  have hB1 : wl.heap[w.heap.size + 1]? = some (.cells #[.int .i64 e] 3 (0, 0)) := by rw [← hwl, heap_alloc_old _ _ _ (by simp), heap_alloc_old _ _ _ (by simp), heap_alloc_old _ _ _ (by simp), heap_alloc_old _ _ _ (by simp), heap_alloc_old _ _ _ (by simp), heap_alloc_old _ _ _ (by simp)]; exact heap_alloc_at _ _ _ _ (by simp)
  have HSEQ := all1_seq 4 wl b z7 A N c (fun j => j < w.heap.size ∨ j = z7) hb (fun j hj => by omega) (.inl hL.lt4) (.inr rfl) (by rw [← hz7]; exact hB7) (Lay.row_mono (Lay.row_ext (Lay.row_mono (Q := fun j => j < w.heap.size) hr fun j _ hl => hl) hxl) fun j hj _ => .inl hj) (hL.ext hxl)
  have HZ := Lib.hid (show z1 = w.heap.size + 1 ∧ z2 = w.heap.size + 2 ∧ z3 = w.heap.size + 3 ∧ z4 = w.heap.size + 4 ∧ z5 = w.heap.size + 5 ∧ z6 = w.heap.size + 6 ∧ z7 = w.heap.size + 7 by omega)
  clear hwl hz1 hz2 hz3 hz4 hz5 hz6 hz7
  refine (wpIn_wide (n := 5)).1 ?_
  have HQ4 := Lib.hid (show ∀ j, (j < w.heap.size ∨ j = z7) → j < wl.heap.size ∧ (j < w.heap.size ∨ j = w.heap.size + 7) from fun j hj => by have := HZ.out; omega)
  refine rangeH (n := 5) rfl (by omega) (gf := 126) (lb := #[.pointer (some ⟨z7, 0, none⟩)]) rfl trivial (enters_of Tryz.func126 (by kernel_rfl) rfl) HSEQ (fun x => rfl) (fun _ _ _ _ _ => pgRp_put) (WhI w e v wd) (WhX w e v wd) (WhI.ab hsz) (WhX.ab hsz)
    (fun s q W o' h => h.put hsz) (fun cc s q W o' h => h.put hsz (.inl rfl)) (fun j hj => (HQ4.out j hj).1) (fun s q W h j hj => by have := h.q j hj; omega) (fun W hx hs => ⟨hxl.trans hx, by omega, fun j hj => by have := (HQ4.out j hj).2; omega, (hx.block _ (by omega)).trans hB1, (hx.block _ (by omega)).trans hB2, (hx.block _ (by omega)).trans hB3, (hx.block _ (by omega)).trans hB4, (hx.block _ (by omega)).trans hB5, (hx.block _ (by omega)).trans hB6, rfl⟩)
    (WhAx w z1 z2 z3 z4 z5 z6 z7 b e v wd A N c) (fun _ _ _ _ _ h => ?ap) (fun q x W W' h hx => pgRp_ext h hx) ?assign ?body ?done ?stop
  case ap =>
    obtain ⟨Bx, h1, h2, h3⟩ := h
    exact ⟨Bx, h1, (World.putObj_heap_other (by omega)).trans h2, h3⟩
  case assign =>
    rintro l ⟨pg, ⟨A7, n7, c7⟩, ⟨A8, n8, c8⟩⟩ q W K hrp hlen hqs hK
    dsimp only [pgEnc]
    gi_wp2
    exact hK _ _ ((Ext.refl W).alloc _) ⟨W.heap.size, by omega, heap_alloc_at _ _ _ _ rfl, rfl⟩
  case body =>
    rintro pre ⟨pg, ⟨A7, n7, c7⟩, ⟨A8, n8, c8⟩⟩ q a' W hI hrp ⟨Bx, hBx, hB, rfl⟩ hqs hlen _
    unfold pgCells at hB ⊢
    dsimp only at hB ⊢
    have c0 := cell_of hB (i := 0) (u := .int .i64 pg.num) rfl
    have c1 := cell_of hB (i := 1) (u := .int .i64 pg.suf) rfl
    have c2 := cell_of hB (i := 2) (u := .int .i64 pg.ent) rfl
    have c3 := cell_of hB (i := 3) (u := .int .i64 pg.ver) rfl
    have c4 := cell_of hB (i := 4) (u := .slice A7 n7 c7) rfl
    have c5 := cell_of hB (i := 5) (u := .slice A8 n8 c8) rfl
    obtain ⟨hz1, hz2, hz3, hz4, hz5, hz6, hz7⟩ := HZ.out
    have hA1 := hI.a1
    have hA2 := hI.a2
    have hA3 := hI.a3
    have hR4 := hI.r4
    have hR5 := hI.r5
    have hR6 := hI.r6
    rw [← hz1] at hA1
    rw [← hz2] at hA2
    rw [← hz3] at hA3
    rw [← hz4] at hR4
    rw [← hz5] at hR5
    rw [← hz6] at hR6
    have n45 : z4 ≠ z5 := by omega
    have n54 : z5 ≠ z4 := by omega
    have n46 : z4 ≠ z6 := by omega
    have n64 : z6 ≠ z4 := by omega
    have n56 : z5 ≠ z6 := by omega
    have n65 : z6 ≠ z5 := by omega
    clear hz1 hz2 hz3 hz4 hz5 hz6 hz7
    have a1 := cell_of hA1 (i := 0) (u := .int .i64 e) rfl
    have a2 := cell_of hA2 (i := 0) (u := .int .i64 v) rfl
    have HA3 := Lib.hid hA3
    have HRB := Lib.hid (And.intro hR4 (And.intro hR5 hR6))
    have HI := Lib.hid hI
    have HRP := Lib.hid hrp
    have HQS := Lib.hid hqs
    have HBX := Lib.hid hB
    clear hI hrp hqs hB hB1 hB2 hB3 hB4 hB5 hB6 hB7 hA1 hA2 hA3 hR4 hR5 hR6 HSEQ
    by_cases h1 : pg.ent = e
    · by_cases h2 : pg.ver = v
      · have g1 : (pg.ent != e) = false := by simpa using h1
        have g2 : (pg.ver != v) = false := by simpa using h2
        have H1 := Lib.hid h1
        have H2 := Lib.hid h2
        clear h1 h2
        obtain ⟨L, hLe⟩ : ∃ L, pg.body ++ pg.nts = L := ⟨_, rfl⟩
        obtain ⟨m, hme⟩ : ∃ m, L.length = m := ⟨_, rfl⟩
        have hxa : Ext W (W.alloc (.cells #[.slice A7 n7 c7, .slice A8 n8 c8] 82)) := (Ext.refl W).alloc _
        have hna := heap_alloc_new W (.cells #[.slice A7 n7 c7, .slice A8 n8 c8] 82)
        have HCAT := Lib.hid (show Calls Tryz.prog 56 #[.slice (some ⟨W.heap.size, 0, none⟩) 2 2] (W.alloc (.cells #[.slice A7 n7 c7, .slice A8 n8 c8] 82)) (fun en W' => ∃ A c, en = .returned (.slice A m c) ∧ kLn.row W' (fun _ => True) A m L ∧ Ext W W') from by
          obtain ⟨_, _, k3, k4, k5, k6⟩ := HRP.out
          have e7 := Lay.row_len k3
          have e8 := Lay.row_len k4
          dsimp only at e7 e8 k5 k6
          refine (cat56 kLn rfl _ _ W.heap.size A7 A8 n7 n8 c7 c8 pg.body pg.nts (Lay.row_ext k3 hxa) (Lay.row_ext k4 hxa) (by omega) (by omega) (lt_of_block hna) (cell_of hna (i := 0) rfl) (cell_of hna (i := 1) rfl)).mono ?_
          rintro z W' ⟨A9, c9, rfl, ho, hx⟩
          subst hme hLe
          exact ⟨A9, c9, rfl, own_row_all rfl ho, hxa.trans hx⟩)
        have hm2 : m ≤ 2000 := by
          obtain ⟨_, _, k3, k4, k5, k6⟩ := HRP.out
          dsimp only at k5 k6
          rw [← hme, ← hLe, List.length_append]; omega
        have HME := Lib.hid hme
        have HLE := Lib.hid hLe
        clear hxa hna hme hLe
        gi_wp2_with (refine ⟨trivial, ?_⟩; gi_at_call 56; refine (CallsIn.inRound _ (callsIn_wide.2 HCAT.out)).mono ?_; rintro z w1 ⟨A9, c9, rfl, hrow, hx1⟩)
        have HROW := Lib.hid hrow
        have HX1 := Lib.hid hx1
        have HNW := Lib.hid (show lineAt wd (pg.body ++ pg.nts) 0 = lineAt wd L 0 by rw [HLE.out])
        clear hrow hx1 c2 c3 c4 c5 a1 a2 g1 g2
        gi_loopw [34] (fun s34 w' => WhL w1 wd L s34 w') (fun s34 _ => toM m s34)
        case atStart => exact ⟨0, by omega, rfl, Ext.refl _, rfl⟩
        case round =>
          obtain ⟨i, hi, rfl, hxr, hli⟩ := hrel
          have HLI := Lib.hid hli
          have hi2 : i ≤ m := by have := HME.out; omega
          clear hli hi
          have HXW := Lib.hid (HX1.out.trans hxr)
          have HXR := Lib.hid hxr
          clear hxr
          by_cases hlt : i < m
          case neg =>
            have hni : ¬ ((i : Int) < (m : Int)) := by omega
            have HNF := Lib.hid (show lineAt wd L 0 = none by rw [HLI.out, List.drop_of_length_le (by have := HME.out; omega)]; rfl)
            gi_wp2
            have hI := HI.out
            have hxw := HXW.out
            have hs := hI.s
            refine ⟨⟨hxw.block _ (by omega), hxw.block _ (by omega)⟩, fun j hj => hxw.block j (HQS.out j hj), ⟨hI.x.trans hxw, Nat.le_trans hI.s hxw.lt, hI.q, (hxw.block _ (by omega)).trans hI.a1, (hxw.block _ (by omega)).trans hI.a2, (hxw.block _ (by omega)).trans hI.a3, (hxw.block _ (by omega)).trans hI.r4, (hxw.block _ (by omega)).trans hI.r5, (hxw.block _ (by omega)).trans hI.r6, ?_⟩⟩
            rw [List.map_append, whereG_app _ _ _ _ _ hI.n]
            simp only [List.map_cons, List.map_nil, whereG]
            rw [if_neg (by simp [H1.out, H2.out]), HNW.out, HNF.out]
          have hI : (i : Int) < (m : Int) := by omega
          obtain ⟨x, hxi⟩ : ∃ x, L[i]? = some x := ⟨_, List.getElem?_eq_getElem (by have := HME.out; omega)⟩
          obtain ⟨bl, ol, cl, rfl, hbl, _, hrl, hcl⟩ := Lay.row_at (Lay.row_ext HROW.out HXR.out) hxi
          obtain ⟨B1, m1, k1, B2, m2, k2, rfl, _, _, _, _⟩ := kLn_rep.1 hrl
          have e0 := hcl 0 _ rfl
          have e1 := hcl 1 _ rfl
          have e2 := hcl 2 _ rfl
          have e3 := hcl 3 _ rfl
          rw [kLn_sz] at e0 e1 e2 e3
          rw [Nat.add_zero] at e0
          have HST := Lib.hid (show lineAt wd L 0 = if x.fr ≤ wd ∧ wd < x.un then some (i + 1) else lineAt wd (L.drop (i + 1)) (i + 1) by rw [HLI.out, dwl' L hxi]; rfl)
          have a3 := cell_of ((HXW.out.block _ (lt_of_block HA3.out)).trans HA3.out) (i := 0) (u := .int .i64 wd) rfl
          have c0 := cell_of ((HXW.out.block _ (lt_of_block HBX.out)).trans HBX.out) (i := 0) (u := .int .i64 pg.num) rfl
          have c1 := cell_of ((HXW.out.block _ (lt_of_block HBX.out)).trans HBX.out) (i := 1) (u := .int .i64 pg.suf) rfl
          have hR4 := (HXW.out.block _ (lt_of_block HRB.out.1)).trans HRB.out.1
          have hR5 := (HXW.out.block _ (lt_of_block HRB.out.2.1)).trans HRB.out.2.1
          have hR6 := (HXW.out.block _ (lt_of_block HRB.out.2.2)).trans HRB.out.2.2
          have f40 := frozen_of hR4 0
          have f41 := frozen_of hR4 1
          have f50 := frozen_of hR5 0
          have f60 := frozen_of hR6 0
          have r40 := cell_of hR4 (i := 0) (u := .int .i64 0) rfl
          have r41 := cell_of hR4 (i := 1) (u := .int .i64 0) rfl
          have r50 := cell_of hR5 (i := 0) (u := .int .i64 0) rfl
          have r60 := cell_of hR6 (i := 0) (u := .bool false) rfl
          have l4 := lt_of_block hR4
          have l5 := lt_of_block hR5
          have l6 := lt_of_block hR6
          have lA := World.block_lt_of_cell? wr _ a3
          have lB := World.block_lt_of_cell? wr _ c0
          have HRX := Lib.hid (And.intro hR4 (And.intro hR5 hR6))
          clear hxi hrl hcl hR4 hR5 hR6 hi2
          by_cases h1 : x.fr ≤ wd
          · by_cases h2 : wd < x.un
            · have g1 : decide (x.fr ≤ wd) = true := by simpa using h1
              gi_wp2
              obtain ⟨Y, hY⟩ : ∃ Y, ((((wr.setCell ⟨z4, 0, none⟩ (.int .i64 pg.num)).setCell ⟨z4, 1, none⟩ (.int .i64 pg.suf)).setCell ⟨z5, 0, none⟩ (.int .i64 ((i : Int) + 1))).setCell ⟨z6, 0, none⟩ (.bool true)) = Y := ⟨_, rfl⟩
              have hs4 := st4 n45 n46 n56 HRX.out.1 HRX.out.2.1 HRX.out.2.2 (.int .i64 pg.num) (.int .i64 pg.suf) (.int .i64 ((i : Int) + 1)) (.bool true)
              rw [hY] at hs4 ⊢
              obtain ⟨hz1, hz2, hz3, hz4, hz5, hz6, hz7⟩ := HZ.out
              have hI := HI.out
              have hxw := HXW.out
              have hs := hI.s
              have hlw := hxw.lt
              have hxY : Ext w Y := hs4.ext w (by omega) (by omega) (by omega) (hI.x.trans hxw)
              have hbk : ∀ j, j < W.heap.size → j ≠ z4 → j ≠ z5 → j ≠ z6 → (Y.alloc (.cells #[.int .i64 x.fr, .int .i64 x.un, .slice B1 m1 k1, .slice B2 m2 k2] 86)).heap[j]? = W.heap[j]? := fun j hj q4 q5 q6 =>
                (heap_alloc_old _ _ _ (by rw [hs4.size]; omega)).trans ((hs4.keep j q4 q5 q6).trans (hxw.block j hj))
              refine ⟨⟨hbk _ (by omega) (by omega) (by omega) (by omega), hbk _ (by omega) (by omega) (by omega) (by omega)⟩, ⟨rfl, hxY.alloc _, ?_, ⟨pg.num, pg.suf, i + 1, fun R => ?_, ?_, ?_⟩, ?_⟩⟩
              · rw [World.size_alloc, hs4.size]; omega
              · rw [List.map_append, List.append_assoc, whereG_app _ _ _ _ _ hI.n]
                simp only [List.map_cons, List.map_nil, List.cons_append, List.nil_append, whereG]
                rw [if_neg (by simp [H1.out, H2.out]), HNW.out, HST.out, if_pos ⟨h1, h2⟩]
              · rw [← hz4]; exact (heap_alloc_old _ _ _ (lt_of_block hs4.h4)).trans hs4.h4
              · rw [← hz5]; exact (heap_alloc_old _ _ _ (lt_of_block hs4.h5)).trans hs4.h5
              · rw [← hz6]; exact (heap_alloc_old _ _ _ (lt_of_block hs4.h6)).trans hs4.h6
            · have g1 : decide (x.fr ≤ wd) = true := by simpa using h1
              gi_wp2
              exact ⟨⟨i + 1, by have := HME.out; omega, by simp, HXR.out.alloc _, by rw [HST.out, if_neg (by omega)]⟩, by simp only [toM]; omega⟩
          · have g1 : decide (x.fr ≤ wd) = false := by simpa using h1
            gi_wp2
            exact ⟨⟨i + 1, by have := HME.out; omega, by simp, HXR.out.alloc _, by rw [HST.out, if_neg (by omega)]⟩, by simp only [toM]; omega⟩
      · have g1 : (pg.ent != e) = false := by simpa using h1
        have g2 : (pg.ver != v) = true := by simpa using h2
        have H2 := Lib.hid h2
        clear h1 h2
        gi_wp2
        have hI := HI.out
        exact ⟨⟨rfl, rfl⟩, fun _ _ => rfl, ⟨hI.x, hI.s, hI.q, hI.a1, hI.a2, hI.a3, hI.r4, hI.r5, hI.r6, by rw [List.map_append, whereG_app _ _ _ _ _ hI.n]; simp [whereG, H2.out]⟩⟩
    · have g1 : (pg.ent != e) = true := by simpa using h1
      have H1 := Lib.hid h1
      clear h1
      gi_wp2
      have hI := HI.out
      exact ⟨⟨rfl, rfl⟩, fun _ _ => rfl, ⟨hI.x, hI.s, hI.q, hI.a1, hI.a2, hI.a3, hI.r4, hI.r5, hI.r6, by rw [List.map_append, whereG_app _ _ _ _ _ hI.n]; simp [whereG, H1.out]⟩⟩
  case done =>
    intro xs q W hS hI hK
    obtain ⟨hz1, hz2, hz3, hz4, hz5, hz6, hz7⟩ := HZ.out
    have hA1 := hI.a1
    have hA2 := hI.a2
    have hA3 := hI.a3
    have hR4 := hI.r4
    have hR5 := hI.r5
    have hR6 := hI.r6
    rw [← hz1] at hA1
    rw [← hz2] at hA2
    rw [← hz3] at hA3
    rw [← hz4] at hR4
    rw [← hz5] at hR5
    rw [← hz6] at hR6
    have n45 : z4 ≠ z5 := by omega
    have n54 : z5 ≠ z4 := by omega
    have n46 : z4 ≠ z6 := by omega
    have n64 : z6 ≠ z4 := by omega
    have n56 : z5 ≠ z6 := by omega
    have n65 : z6 ≠ z5 := by omega
    clear hz1 hz2 hz3 hz4 hz5 hz6 hz7
    have a1 := cell_of hA1 (i := 0) (u := .int .i64 e) rfl
    have a2 := cell_of hA2 (i := 0) (u := .int .i64 v) rfl
    have a3 := cell_of hA3 (i := 0) (u := .int .i64 wd) rfl
    have f40 := frozen_of hR4 0
    have f41 := frozen_of hR4 1
    have f50 := frozen_of hR5 0
    have f60 := frozen_of hR6 0
    have r40 := cell_of hR4 (i := 0) (u := .int .i64 0) rfl
    have r41 := cell_of hR4 (i := 1) (u := .int .i64 0) rfl
    have r50 := cell_of hR5 (i := 0) (u := .int .i64 0) rfl
    have r60 := cell_of hR6 (i := 0) (u := .bool false) rfl
    have HRB := Lib.hid (And.intro hR4 (And.intro hR5 hR6))
    have HI := Lib.hid hI
    have HK := Lib.hid hK
    clear hI hK hB1 hB2 hB3 hB4 hB5 hB6 hB7 HSEQ hA1 hA2 hA3 hR4 hR5 hR6
    gi_wp2
    go_wp2_with fail
    obtain ⟨Y, hY⟩ : ∃ Y, ((((W.setCell ⟨z4, 0, none⟩ (.int .i64 0)).setCell ⟨z4, 1, none⟩ (.int .i64 0)).setCell ⟨z5, 0, none⟩ (.int .i64 0)).setCell ⟨z6, 0, none⟩ (.bool false)) = Y := ⟨_, rfl⟩
    have hs4 := st4 n45 n46 n56 HRB.out.1 HRB.out.2.1 HRB.out.2.2 (.int .i64 0) (.int .i64 0) (.int .i64 0) (.bool false)
    rw [hY] at hs4 ⊢
    obtain ⟨Z, hZ⟩ : ∃ Z, Y.putObj wl.heap.size (.deferred none) = Z := ⟨_, rfl⟩
    obtain ⟨hz1, hz2, hz3, hz4, hz5, hz6, hz7⟩ := HZ.out
    have hZk : ∀ j, j ≠ wl.heap.size → Z.heap[j]? = Y.heap[j]? := fun j hj => by rw [← hZ]; exact World.putObj_heap_other (by omega)
    have hKY : Y.heap[wl.heap.size]? = some (.deferred (some [])) := (hs4.keep _ (by omega) (by omega) (by omega)).trans HK.out
    have hxZ : Ext w Z := by rw [← hZ]; exact (hs4.ext w (by omega) (by omega) (by omega) HI.out.x).putObj (by omega) _
    have q0 := cell_of ((hZk z4 (by omega)).trans hs4.h4) (i := 0) rfl
    have q1 := cell_of ((hZk z4 (by omega)).trans hs4.h4) (i := 1) rfl
    have q2 := cell_of ((hZk z5 (by omega)).trans hs4.h5) (i := 0) rfl
    have q3 := cell_of ((hZk z6 (by omega)).trans hs4.h6) (i := 0) rfl
    refine ⟨by simp, .inl ⟨_, _, rfl, run_takeDeferred hKY, ?_⟩⟩
    rw [hZ]
    refine ⟨.tuple #[.agg #[.int .i64 0, .int .i64 0], .int .i64 0, .bool false], by simp [results, Tryz.results33, go_sem, q0, q1, q2, q3], .inl ⟨?_, rfl, hxZ⟩⟩
    have := HI.out.n
    rw [hS] at this
    exact this
  case stop =>
    intro cc pre q W hS hX hK
    obtain rfl := hX.c
    have HX := Lib.hid hX
    have HK := Lib.hid hK
    clear hX hK hB1 hB2 hB3 hB4 hB5 hB6 hB7 HSEQ
    gi_wp2
    obtain ⟨Y, hY⟩ : ∃ Y, W = Y := ⟨_, rfl⟩
    rw [hY] at HX HK ⊢
    obtain ⟨Z, hZ⟩ : ∃ Z, Y.putObj wl.heap.size (.deferred none) = Z := ⟨_, rfl⟩
    obtain ⟨hz1, hz2, hz3, hz4, hz5, hz6, hz7⟩ := HZ.out
    have hZk : ∀ j, j ≠ wl.heap.size → Z.heap[j]? = Y.heap[j]? := fun j hj => by rw [← hZ]; exact World.putObj_heap_other (by omega)
    have hXZ : WhX w e v wd .ret pre q Z := by rw [← hZ]; exact HX.out.put hsz (.inr rfl)
    obtain ⟨n, s, i, h1, h4, h5⟩ := hXZ.p
    have h6 := hXZ.b
    rw [← hz4] at h4
    rw [← hz5] at h5
    rw [← hz6] at h6
    have q0 := cell_of h4 (i := 0) rfl
    have q1 := cell_of h4 (i := 1) rfl
    have q2 := cell_of h5 (i := 0) rfl
    have q3 := cell_of h6 (i := 0) rfl
    refine ⟨by simp, .inl ⟨_, _, rfl, run_takeDeferred HK.out, ?_⟩⟩
    rw [hZ]
    refine ⟨.tuple #[.agg #[.int .i64 n, .int .i64 s], .int .i64 i, .bool true], by simp [results, Tryz.results33, go_sem, q0, q1, q2, q3], .inr ⟨n, s, i, ?_, rfl, hXZ.x⟩⟩
    obtain ⟨R, hR⟩ := hS
    show whereG e v wd (pagesB b) = some (n, s, i)
    rw [← hR]
    exact h1 R
end Go.Proofs.YtdbnddmncbjobaaGreatDoor
namespace Go.Proofs.YtdbnddmncbjobaaGreatDoor
/-- A word that stands on a page is in the table. -/
theorem hit_where {b : Bk} {N V : Nat} (h : OkB b N V) {x : Se} (hx : x ∈ b.secs) (hv : x.vers.Nodup) {j : Nat} {v : Int} {t : Tx} (h1 : x.vers[j]? = some v) (h2 : x.texts[j]? = some t) {n nu su : Int} {i : Nat} (hw : whereP b x.ent v n = some (nu, su, i))
    {w : Wd} (ht : wordT t n = some w) (hk : w.key ≠ []) {br tb : Int} (htb : w.tb = tb) {ls : List Sea} (hs : seald ls x.ent v n = false) : Hit br tb ls b w.key ⟨br, nu, su, i⟩ := by
  obtain ⟨p, hp, hg, he, hpv, g1, g2, g3, g4, g5, g6, y, g7, g8, g9⟩ := where_page h.pgs hw
  obtain ⟨_, e1, e2⟩ := page_mem hg
  refine ⟨p, hp, t, by rw [he, hpv]; exact textB_at h.ent hx hv h1 h2, i - 1, y, g7, n, g8, g9, w, ht, rfl, hk, htb, by rw [he, hpv]; exact hs, ?_⟩
  rw [e1, e2]
  congr 1
  omega
end Go.Proofs.YtdbnddmncbjobaaGreatDoor
namespace Go.Proofs.YtdbnddmncbjobaaGreatDoor
open Go Go.RowKit
attribute [local go_sem] Oper.semAt_some

theorem OkG.nodup {b : Bk} (h : OkG b) {x : Se} (hx : x ∈ b.secs) : x.vers.Nodup := by
  obtain ⟨fr, hs⟩ := h.s
  obtain ⟨k, hk⟩ := List.getElem?_of_mem hx
  have hk4 : k < 4 := by have := (List.getElem?_eq_some_iff.1 hk).1; have := h.n; omega
  obtain ⟨m, h1, _, h2, _⟩ := (hs k x hk).vs
  rw [h2]
  have hm : m = 0 ∨ m = 1 ∨ m = 2 := by omega
  rcases hm with rfl | rfl | rfl
  · simp
  · simp [List.range_succ]; omega
  · simp [List.range_succ]; omega
theorem plc_big9 {w : World} {A : Option Addr} {n c : Nat} {S : Tb} {M : Nat} (h : TbV w A n c S M) (k : List UInt8) : (plc S k).length ≤ M := by
  unfold plc
  cases hf : findP S k with
  | none => simp
  | some y => have := h.n.2.2 _ (find_mem hf); simpa using this
def CkR (w5 : World) (n1 : Nat) (s10 : Value) (W : World) : Prop := ∃ j : Nat, j ≤ n1 ∧ s10 = .int .i64 j ∧ Ext w5 W
/-- What book.Where left. -/
def WhC (w8 : World) (b : Bk) (e v n : Int) (s14 s15 s16 : Value) (W : World) : Prop := ∃ (zl : Nat) (nu su : Int) (li : Nat) (st : Bool), s14 = .pointer (some ⟨zl, 0, none⟩) ∧ s15 = .int .i64 li ∧ s16 = .bool st ∧ W.heap[zl]? = some (.cells #[.int .i64 nu, .int .i64 su] 64 (0, 0)) ∧ (st = true → whereP b e v n = some (nu, su, li)) ∧ Ext w8 W
def FcR (w9 : World) (x : Ct) (l : List Ct) (s19 s20 : Value) (W : World) : Prop := ∃ (j : Nat) (f : Bool), j ≤ l.length ∧ s19 = .bool f ∧ s20 = .int .i64 j ∧ (x ∈ l.take j → f = true) ∧ Ext w9 W
set_option maxHeartbeats 8000000 in
set_option maxRecDepth 100000 in
theorem complete_law (A A' : Option Addr) (c c' : Nat) (l l' : List Int) (br tb which : Int) (w : World) (h : IL w A c l) (hl : l.length ≤ 9223372036854775807) (h' : IL w A' c' l') (hl' : l'.length ≤ 9223372036854775807)
    (htb : -9223372036854775808 ≤ tb ∧ tb ≤ 9223372036854775807) (hmy : -9223372036854775808 ≤ which ∧ which ≤ 9223372036854775807) (hL : EnvW w) :
    Calls Tryz.prog 8 #[.agg #[.slice A l.length c, .slice A' l'.length c', .int .i64 br, .int .i64 tb], .int .i64 which] w fun e w' => e = .returned (.bool true) ∧ Ext w w' := by
  have HLV := Lib.hid (fun X (hX : Ext w X) => lives31_any X (hL.ext hX))
  have HL := Lib.hid (fun X (hX : Ext w X) => hL.ext hX)
  have HMA := Lib.hid (fun X (hX : Ext w X) => made_any A A' c c' l l' br tb X (h.ext hX) hl (h'.ext hX) hl')
  have HTB := Lib.hid (fun X => around3_fn tb 2 X htb.1 htb.2 (by omega) (by omega))
  have HMY := Lib.hid (fun X (k : Int) (h1 : 1 ≤ k) (h2 : k ≤ 1000000000) => around3_fn which k X hmy.1 hmy.2 h1 h2)
  clear h h' hl hl' htb hmy hL
  obtain ⟨n1, hn1⟩ : ∃ n1, l.length = n1 := ⟨_, rfl⟩
  obtain ⟨n2, hn2⟩ : ∃ n2, l'.length = n2 := ⟨_, rfl⟩
  rw [hn1, hn2] at HMA ⊢
  clear hn1 hn2
  obtain ⟨t, ht⟩ : ∃ t, arnd tb 2 = t := ⟨_, rfl⟩
  rw [ht] at HTB
  clear ht
  obtain ⟨z, hz⟩ : ∃ z, w.heap.size = z := ⟨_, rfl⟩
  obtain ⟨w1, hw1⟩ : ∃ w1, w.alloc (.cells #[.slice A n1 c, .slice A' n2 c', .int .i64 br, .int .i64 tb] 24) = w1 := ⟨_, rfl⟩
  have hx1 : Ext w w1 := by rw [← hw1]; exact (Ext.refl w).alloc _
  have hB1 : w1.heap[z]? = some (.cells #[.slice A n1 c, .slice A' n2 c', .int .i64 br, .int .i64 tb] 24 (0, 0)) := by rw [← hw1, ← hz]; exact heap_alloc_new _ _
  have HX1 := Lib.hid hx1
  have HB1 := Lib.hid hB1
  have a0 := cell_of hB1 (i := 0) rfl
  have a1 := cell_of hB1 (i := 1) rfl
  have a2 := cell_of hB1 (i := 2) rfl
  have a3 := cell_of hB1 (i := 3) rfl
  clear hx1 hB1
  go_enter Tryz.func8, Tryz.ntmps8
  go_upto_region 1 with (fail)
  clear hw1 hz
  go_wp2_with fail
  refine (HMA.out _ HX1.out).mono ?_
  rintro e w2 ⟨b, B, N, cB, S, m, cS, ls, rfl, hok, hnc, hr, hmc, hrs, hlm, hgs, hx2⟩
  have HOK := Lib.hid hok.okB
  have HND := Lib.hid (fun x (hx : x ∈ b.secs) => hok.nodup hx)
  have HX2 := Lib.hid hx2
  have HM := Lib.hid (Lay.row_len hrs)
  have HMC := Lib.hid hmc
  have HLM := Lib.hid hlm
  have HGS := Lib.hid hgs
  have HSA := Lib.hid (fun e => row_A hrs e)
  obtain ⟨g, hg⟩ : ∃ g, w2.heap.size = g := ⟨_, rfl⟩
  obtain ⟨w3, hw3⟩ : ∃ w3, w2.alloc (.cells #[.int .i64 b.ms, .int .i64 b.ht, .slice B N cB] 27) = w3 := ⟨_, rfl⟩
  have hx23 : Ext w2 w3 := by rw [← hw3]; exact (Ext.refl w2).alloc _
  have hB3 : w3.heap[g]? = some (.cells #[.int .i64 b.ms, .int .i64 b.ht, .slice B N cB] 27 (0, 0)) := by rw [← hw3, ← hg]; exact heap_alloc_new _ _
  have HX3 := Lib.hid (hx2.trans hx23)
  have HB3 := Lib.hid hB3
  have HR := Lib.hid (fun X (hX : Ext w3 X) => Lay.row_ext hr (hx23.trans hX))
  have HRS := Lib.hid (fun X (hX : Ext w3 X) => Lay.row_ext hrs (hx23.trans hX))
  have HEV := Lib.hid (fun X (hX : Ext w3 X) => HL.out X (HX1.out.trans (HX3.out.trans hX)))
  have HQ := Lib.hid (fun X (hX : Ext w3 X) => (show (X.cell? ⟨z, 2, none⟩ = some (.int .i64 br) ∧ X.cell? ⟨z, 3, none⟩ = some (.int .i64 tb)) ∧ X.cell? ⟨g, 0, none⟩ = some (.int .i64 b.ms) ∧ X.cell? ⟨g, 1, none⟩ = some (.int .i64 b.ht) ∧ X.cell? ⟨g, 2, none⟩ = some (.slice B N cB) from
    have h9 := (hX.block _ (lt_of_block HB3.out)).trans HB3.out
    have h8 := ((HX3.out.trans hX).block _ (lt_of_block HB1.out)).trans HB1.out
    ⟨⟨cell_of h8 (i := 2) rfl, cell_of h8 (i := 3) rfl⟩, cell_of h9 (i := 0) rfl, cell_of h9 (i := 1) rfl, cell_of h9 (i := 2) rfl⟩))
  clear a0 a1 a2 a3 hx2 hx23 hB3 hr hrs hok hmc hlm hgs
  go_upto_region 2 with (fail)
  clear hw3 hg
  obtain ⟨⟨a2, a3⟩, p0, p1, p2⟩ := HQ.out _ (Ext.refl _)
  go_upto_region 3 with (first | (go_at_call 17; refine (HTB.out _).mono ?_; rintro e w9 ⟨rfl, rfl⟩))
  have HN := Lib.hid (Lay.row_len (HR.out _ (Ext.refl _)))
  have HM8 := Lib.hid (show m ≤ 1000000 from by have := HM.out; have := HLM.out; omega)
  by_cases h0 : N = 0
  · have g0 : ((N : Int) == 0) = true := by simp [h0]
    have HEMP := Lib.hid (show itemsB br t ls b = [] from items_none fun k c hh => by
      obtain ⟨p, hp, tx, ht, _⟩ := hh
      obtain ⟨x, hx, _⟩ := textB_mem ht
      have := List.length_pos_of_mem hx
      have := HN.out
      omega)
    have HI3 := Lib.hid (show Calls Tryz.prog 19 #[.agg #[.int .i64 b.ms, .int .i64 b.ht, .slice B N cB], .int .i64 br, .int .i64 t, .slice S m cS] w3 (fun e w' => ∃ A1 c1, e = .returned (.slice A1 0 c1) ∧ Ext w3 w') from by
      refine (items_mk w3 b br t ls B S N cB m cS _ _ HOK.out (HR.out _ (Ext.refl _)) (HRS.out _ (Ext.refl _)) HM8.out HGS.out (HEV.out _ (Ext.refl _))).mono ?_
      rintro e w' ⟨A1, m1, c1, rfl, hT, hx⟩
      rw [HEMP.out] at hT
      obtain rfl : m1 = 0 := hT.n.1
      exact ⟨A1, c1, rfl, hx⟩)
    clear h0
    go_wp2_with fail
    refine (HI3.out).mono ?_
    rintro e wy ⟨A1, c1, rfl, hxy⟩
    have HXY := Lib.hid hxy
    clear hxy a2 a3 p0 p1 p2
    go_wp2_with fail
    refine (HLV.out _ (HX1.out.trans (HX3.out.trans HXY.out))).mono ?_
    rintro e wz ⟨rfl, hxz⟩
    have HXZ := Lib.hid (HX1.out.trans (HX3.out.trans (HXY.out.trans hxz)))
    clear hxz
    go_wp2_with fail
    go_ret
    exact ⟨rfl, HXZ.out⟩
  have g0 : ((N : Int) == 0) = false := by simp; omega
  obtain ⟨i, hi, hib⟩ := around_nat which N (by omega)
  have HPN := Lib.hid (fun X => (show Calls Tryz.prog 17 #[.int .i64 which, .int .i64 (N : Int)] X (fun e w' => e = .returned (.int .i64 (i : Int)) ∧ X = w') from by rw [← hi]; exact HMY.out X N (by omega) (by have := HN.out; have := HOK.out.n; omega)))
  clear hi
  have hI : (i : Int) < (N : Int) := by omega
  obtain ⟨x, hxi⟩ : ∃ x, b.secs[i]? = some x := ⟨_, List.getElem?_eq_getElem (by have := HN.out; omega)⟩
  obtain ⟨bs, os, cs, rfl, hbs, _, hrep, hcs⟩ := Lay.row_at (HR.out _ (Ext.refl _)) hxi
  obtain ⟨A1, nv, c1, A2, nt, c2, rfl, hn1, hn2, hr1, hr2⟩ := kSe_rep.1 hrep
  have e0 := hcs 0 _ rfl
  have e1 := hcs 1 _ rfl
  have e2 := hcs 2 _ rfl
  have e3 := hcs 3 _ rfl
  rw [kSe_sz] at e0 e1 e2 e3
  rw [Nat.add_zero] at e0
  have HXI := Lib.hid (List.mem_of_getElem? hxi)
  have HR1 := Lib.hid hr1
  have HR2 := Lib.hid hr2
  clear hrep hcs hr1 hr2 hxi h0
  go_upto_region 5 with (fail)
  go_cut [8] (fun s8 wx => SbC w3 w3.heap.size #[.int .i64 x.ent, .bool x.fz, .slice A1 nv c1, .slice A2 nt c2] 46 s8 wx)
  case first =>
    have hbl2 : g < w3.heap.size := lt_of_block HB3.out
    have HZ1 := Lib.hid (heap_alloc_new w3 (.cells #[.int .i64 x.ent, .bool x.fz, .slice A1 nv c1, .slice A2 nt c2] 46))
    have HXD := Lib.hid (show Ext w3 (w3.alloc (.cells #[.int .i64 x.ent, .bool x.fz, .slice A1 nv c1, .slice A2 nt c2] 46)).drew from ((Ext.refl w3).alloc _).drew)
    go_region_law (first
      | (go_simp; go_at_call 17; refine (HPN.out _).mono ?_; rintro e w2 ⟨rfl, rfl⟩; simp only []))
    all_goals
      go_wp2
      go_meet
      case rel => exact ⟨w3.heap.size, Nat.le_refl _, rfl, HZ1.out, HXD.out⟩
  case rest =>
    obtain ⟨z8, hz8, rfl, hzb, hxc⟩ := hcut
    obtain ⟨w4, hw4⟩ : ∃ w4, wc = w4 := ⟨_, rfl⟩
    subst hw4
    have HXC := Lib.hid hxc
    have HZB := Lib.hid hzb
    clear e0 e1 e2 e3 a2 a3 p0 p1 p2 hbs
    have hl := HOK.out.vs x HXI.out
    have e9 := Lay.row_len HR1.out
    have e8 := Lay.row_len HR2.out
    obtain rfl : nv = nt := by omega
    have HNV := Lib.hid (show nv = x.vers.length ∧ nv = x.texts.length ∧ nv ≤ 3 from by omega)
    have HQ8 := Lib.hid (fun X (hX : Ext wc X) => (show X.cell? ⟨z8, 0, none⟩ = some (.int .i64 x.ent) ∧ X.cell? ⟨z8, 2, none⟩ = some (.slice A1 nv c1) ∧ X.cell? ⟨z8, 3, none⟩ = some (.slice A2 nv c2) from
      have h9 := (hX.block _ (lt_of_block HZB.out)).trans HZB.out
      ⟨cell_of h9 (i := 0) rfl, cell_of h9 (i := 2) rfl, cell_of h9 (i := 3) rfl⟩))
    have HR1 := Lib.hid (Lay.row_ext HR1.out hxc)
    have HR2 := Lib.hid (Lay.row_ext HR2.out hxc)
    have HI1 := Lib.hid (items_mk wc b br t ls (some ⟨bs, os, none⟩) S N cB m cS _ _ HOK.out (HR.out wc hxc) (HRS.out wc hxc) HM8.out HGS.out (HEV.out wc hxc))
    obtain ⟨⟨a2, a3⟩, p0, p1, p2⟩ := HQ.out _ hxc
    clear hxc hzb hl e9 e8 hn1 hn2
    go_wp2_with fail
    refine (HI1.out).mono ?_
    rintro e w5 ⟨Aa, na, ca, rfl, hTa, hx5⟩
    have HTA := Lib.hid hTa
    have HX5 := Lib.hid hx5
    have HXS := Lib.hid (HXC.out.trans hx5)
    clear hTa hx5 a2 a3 p0 p1 p2
    go_wp2_with fail
    go_loopw [10] (fun s10 W => CkR w5 nv s10 W) (fun s10 _ => toM nv s10)
    case atStart => exact ⟨0, Nat.zero_le _, rfl, Ext.refl _⟩
    case round =>
      obtain ⟨j, hj, rfl, hxr⟩ := hrel
      have HXR := Lib.hid hxr
      clear hxr
      obtain ⟨q0, q2, q3⟩ := HQ8.out _ (HX5.out.trans HXR.out)
      by_cases hjn : j < nv
      case neg =>
        have hJ : ¬ (j : Int) < (nv : Int) := by omega
        go_wp2_with fail
        refine (HLV.out _ (HX1.out.trans (HX3.out.trans (HXS.out.trans HXR.out)))).mono ?_
        rintro e wz ⟨rfl, hxz⟩
        have HXZ := Lib.hid (HX1.out.trans (HX3.out.trans (HXS.out.trans (HXR.out.trans hxz))))
        clear hxz
        go_wp2_with fail
        go_ret
        exact ⟨rfl, HXZ.out⟩
      have hJ : (j : Int) < (nv : Int) := by omega
      have HJ := Lib.hid (show j < nv from hjn)
      obtain ⟨vk, hvk⟩ : ∃ vk, x.vers[j]? = some vk := ⟨_, List.getElem?_eq_getElem (by have := HNV.out; omega)⟩
      obtain ⟨tk, htk⟩ : ∃ tk, x.texts[j]? = some tk := ⟨_, List.getElem?_eq_getElem (by have := HNV.out; omega)⟩
      obtain ⟨bv, ov, cv, rfl, hbv, _, hrv, hcv⟩ := Lay.row_at HR1.out hvk
      obtain ⟨bt, ot, ct, rfl, hbt, _, hrt, hct⟩ := Lay.row_at HR2.out htk
      obtain rfl : cv = [.int .i64 vk] := hrv
      obtain ⟨A3, n3, c3, A4, n4, c4, rfl, _, _, hr3, hr4⟩ := kTx_rep.1 hrt
      have v0 := hcv 0 _ rfl
      rw [show kInt.sz = 1 from rfl, Nat.mul_one, Nat.add_zero] at v0
      have t0 := hct 0 _ rfl
      have t1 := hct 1 _ rfl
      rw [kTx_sz] at t0 t1
      rw [Nat.add_zero] at t0
      have HTX := Lib.hid (HOK.out.tx x HXI.out tk (List.mem_of_getElem? htk))
      have hp0 : ∀ p ∈ tk.paras ++ tk.notes, p.length ≤ 40 := fun p hp => by
        rcases List.mem_append.1 hp with h9 | h9
        · exact (HTX.out.par.len p h9).2
        · have := (HTX.out.len p h9).2; omega
      have hnp := HTX.out.np
      have hnn := HTX.out.nn
      have hflat := flat_lt (ps := tk.paras ++ tk.notes) fun p hp => by have := hp0 p hp; omega
      have hwn : wordsN (tk.paras ++ tk.notes) = (tk.paras ++ tk.notes).flatten.length := by unfold wordsN; rw [List.length_flatten]
      rw [List.length_append] at hflat
      have hwb : wordsN (tk.paras ++ tk.notes) ≤ 10000 := by rw [hwn]; omega
      have HC := Lib.hid (fun X (hX : Ext wc X) => count_any _ X A3 A4 n3 n4 c3 c4 tk (Lay.row_ext hr3 hX) (Lay.row_ext hr4 hX) (by omega) (by omega) (by omega))
      have HG := Lib.hid (fun X (hX : Ext wc X) (k : Int) (hk : k ≤ 9223372036854775807) => gword_any _ X A3 A4 n3 n4 c3 c4 tk k (Lay.row_ext hr3 hX) (Lay.row_ext hr4 hX) (by omega) (by omega) (by omega) hk)
      obtain ⟨nw, hnw⟩ : ∃ nw, wordsN (tk.paras ++ tk.notes) = nw := ⟨_, rfl⟩
      rw [hnw] at HC hwb hwn
      have HNW := Lib.hid (show nw = (tk.paras ++ tk.notes).flatten.length from hwn)
      have HVK := Lib.hid hvk
      have HTK := Lib.hid htk
      have HQT := Lib.hid (fun X (hX : Ext wc X) => (show X.cell? ⟨bv, ov + j, none⟩ = some (.int .i64 vk) ∧ X.cell? ⟨bt, ot + j * 2, none⟩ = some (.slice A3 n3 c3) ∧ X.cell? ⟨bt, ot + j * 2 + 1, none⟩ = some (.slice A4 n4 c4) from
        ⟨(hX.cells.1 _ _ hbv).trans v0, (hX.cells.1 _ _ hbt).trans t0, (hX.cells.1 _ _ hbt).trans t1⟩))
      clear hvk htk hcv hct hrt hr3 hr4 hp0 hnp hnn hflat hwn hnw v0 t0 t1 hbv hbt
      go_upto_region 10 with (fail)
      clear q0 q2 q3
      go_wp2_with fail
      go_loopw [11] (fun s11 W => CkR w5 nw s11 W) (fun s11 _ => toM nw s11)
      case atStart => exact ⟨0, Nat.zero_le _, rfl, HXR.out⟩
      case round =>
        obtain ⟨n, hn, rfl, hxn⟩ := hrel
        have HXN := Lib.hid hxn
        have HXM := Lib.hid (HX5.out.trans hxn)
        clear hxn
        obtain ⟨q0, q2, q3⟩ := HQ8.out _ HXM.out
        obtain ⟨v0, t0, t1⟩ := HQT.out _ HXM.out
        by_cases hnl : n < nw
        case neg =>
          have hNI : ¬ (n : Int) < (nw : Int) := by omega
          have hwj : IntKind.i64.wrap ((j : Int) + 1) = (j : Int) + 1 := IntWalk.i64_in _ (by have := HJ.out; have := HNV.out; omega)
          go_wp2_with (first | (go_at_call 31; refine (HC.out _ HXM.out).mono ?_; rintro e w6 ⟨rfl, hx6⟩; have HX6 := Lib.hid (HXN.out.trans hx6); clear hx6))
          go_roundw
          case rel => exact ⟨j + 1, by have := HJ.out; omega, by go_num, HX6.out⟩
          case measure => have := HJ.out; simp only [toM]; omega
        have hNI : (n : Int) < (nw : Int) := by omega
        have HNI := Lib.hid (show n < nw ∧ nw ≤ 10000 from ⟨hnl, hwb⟩)
        have HWN := Lib.hid (show IntKind.i64.wrap ((n : Int) + 1) = (n : Int) + 1 from IntWalk.i64_in _ (by omega))
        go_upto_region 13 with (first | (go_at_call 31; refine (HC.out _ HXM.out).mono ?_; rintro e w6 ⟨rfl, hx6⟩; have HX6 := Lib.hid (HXN.out.trans hx6); clear hx6))
        have HX6M := Lib.hid (HX5.out.trans HX6.out)
        clear q0 q2 q3 v0 t0 t1
        obtain ⟨q0, q2, q3⟩ := HQ8.out _ HX6M.out
        obtain ⟨v0, t0, t1⟩ := HQT.out _ HX6M.out
        obtain ⟨y, hy⟩ : ∃ y, (tk.paras ++ tk.notes).flatten[n]? = some y := ⟨_, List.getElem?_eq_getElem (by have := HNW.out; omega)⟩
        have HWT := Lib.hid (show wordT tk (n : Int) = some y from by unfold wordT; rw [if_neg (by omega)]; exact hy)
        have HGW := Lib.hid (show Calls Tryz.prog 32 #[.agg #[.slice A3 n3 c3, .slice A4 n4 c4], .int .i64 (n : Int)] w6 (fun e w' => e = .returned (.tuple #[.agg #[.string ⟨y.s.toArray⟩, .string ⟨y.key.toArray⟩, .int .i64 y.tb, .int .i64 y.nt], .bool true]) ∧ Ext w6 w') from by
          have h9 := HG.out w6 HX6M.out (n : Int) (by omega)
          rw [HWT.out] at h9
          exact h9)
        clear hy
        go_wp2_with fail
        refine (HGW.out).mono ?_
        rintro e w7 ⟨rfl, hx7⟩
        obtain ⟨zw, hzw⟩ : ∃ zw, w7.heap.size = zw := ⟨_, rfl⟩
        obtain ⟨w8, hw8⟩ : ∃ w8, w7.alloc (.cells #[.string ⟨y.s.toArray⟩, .string ⟨y.key.toArray⟩, .int .i64 y.tb, .int .i64 y.nt] 60) = w8 := ⟨_, rfl⟩
        have hx78 : Ext w7 w8 := by rw [← hw8]; exact (Ext.refl w7).alloc _
        have hB8 : w8.heap[zw]? = some (.cells #[.string ⟨y.s.toArray⟩, .string ⟨y.key.toArray⟩, .int .i64 y.tb, .int .i64 y.nt] 60 (0, 0)) := by rw [← hw8, ← hzw]; exact heap_alloc_new _ _
        have HX8 := Lib.hid (HX6.out.trans (hx7.trans hx78))
        have HX8M := Lib.hid (HX6M.out.trans (hx7.trans hx78))
        have HX8S := Lib.hid (HXC.out.trans HX8M.out)
        have HQA := Lib.hid (fun X (hX : Ext w8 X) => (show ((X.cell? ⟨z, 2, none⟩ = some (.int .i64 br) ∧ X.cell? ⟨g, 0, none⟩ = some (.int .i64 b.ms) ∧ X.cell? ⟨g, 1, none⟩ = some (.int .i64 b.ht) ∧ X.cell? ⟨g, 2, none⟩ = some (.slice (some ⟨bs, os, none⟩) N cB)) ∧
            X.cell? ⟨z8, 0, none⟩ = some (.int .i64 x.ent) ∧ X.cell? ⟨z8, 2, none⟩ = some (.slice (some ⟨bv, ov, none⟩) nv c1) ∧ X.cell? ⟨bv, ov + j, none⟩ = some (.int .i64 vk)) ∧
            X.cell? ⟨zw, 1, none⟩ = some (.string ⟨y.key.toArray⟩) ∧ X.cell? ⟨zw, 2, none⟩ = some (.int .i64 y.tb) from
          have h9 := (hX.block _ (lt_of_block hB8)).trans hB8
          have k1 := HQ.out X (HX8S.out.trans hX)
          have k2 := HQ8.out X (HX8M.out.trans hX)
          ⟨⟨⟨k1.1.1, k1.2.1, k1.2.2.1, k1.2.2.2⟩, k2.1, k2.2.1, (HQT.out X (HX8M.out.trans hX)).1⟩, cell_of h9 (i := 1) rfl, cell_of h9 (i := 2) rfl⟩))
        have HWH := Lib.hid (fun X (hX : Ext w8 X) => where_any _ X b x.ent vk (n : Int) (some ⟨bs, os, none⟩) N cB (HOK.out.bkI (by omega) (by omega) (by omega)) (HR.out X (HX8S.out.trans hX)) (HEV.out X (HX8S.out.trans hX)))
        clear hx7 hx78 hB8 q0 q2 q3 v0 t0 t1
        go_upto_region 14 with (fail)
        clear hw8 hzw
        have hcur : Ext w8 w8.drew := (Ext.refl _).drew
        go_cut [14, 15, 16] (fun s14 s15 s16 wx => WhC w8 b x.ent vk (n : Int) s14 s15 s16 wx)
        case first =>
          have hS0 : (fun X : World => ((X.cell? ⟨z, 2, none⟩ = some (.int .i64 br) ∧ X.cell? ⟨g, 0, none⟩ = some (.int .i64 b.ms) ∧ X.cell? ⟨g, 1, none⟩ = some (.int .i64 b.ht) ∧ X.cell? ⟨g, 2, none⟩ = some (.slice (some ⟨bs, os, none⟩) N cB)) ∧ X.cell? ⟨z8, 0, none⟩ = some (.int .i64 x.ent) ∧ X.cell? ⟨z8, 2, none⟩ = some (.slice (some ⟨bv, ov, none⟩) nv c1) ∧ X.cell? ⟨bv, ov + j, none⟩ = some (.int .i64 vk)) ∧ X.cell? ⟨zw, 1, none⟩ = some (.string ⟨y.key.toArray⟩) ∧ X.cell? ⟨zw, 2, none⟩ = some (.int .i64 y.tb)) w8.drew := HQA.out _ hcur
          refine wp_region_E (fun X : World => ((X.cell? ⟨z, 2, none⟩ = some (.int .i64 br) ∧ X.cell? ⟨g, 0, none⟩ = some (.int .i64 b.ms) ∧ X.cell? ⟨g, 1, none⟩ = some (.int .i64 b.ht) ∧ X.cell? ⟨g, 2, none⟩ = some (.slice (some ⟨bs, os, none⟩) N cB)) ∧ X.cell? ⟨z8, 0, none⟩ = some (.int .i64 x.ent) ∧ X.cell? ⟨z8, 2, none⟩ = some (.slice (some ⟨bv, ov, none⟩) nv c1) ∧ X.cell? ⟨bv, ov + j, none⟩ = some (.int .i64 vk)) ∧ X.cell? ⟨zw, 1, none⟩ = some (.string ⟨y.key.toArray⟩) ∧ X.cell? ⟨zw, 2, none⟩ = some (.int .i64 y.tb)) (fun _ => True) (fun i => i == 17) (by kernel_rfl) ?_
          refine wpE_takeS (i := 0) (d := some 87) (v := .agg #[.int .i64 b.ms, .int .i64 b.ht, .slice (some ⟨bs, os, none⟩) N cB]) rfl rfl (by kernel_rfl) (by kernel_rfl) (by kernel_rfl) (by kernel_rfl) (fun _ _ _ h => h) (by rfl) ?hyc1 hS0 trivial ?goc1
          case hyc1 =>
            intro w9 hT9
            obtain ⟨⟨⟨y9, y0, y1, y2⟩, y3, y4, y5⟩, y6, y7⟩ := hT9; go_simp
          (try simp only [Act.put, List.setIfInBounds_toArray, List.set_cons_zero, List.set_cons_succ])
          refine wpE_takeS (i := 1) (d := some 88) (v := .pointer (some ⟨z8, 0, none⟩)) rfl rfl (by kernel_rfl) (by kernel_rfl) (by kernel_rfl) (by kernel_rfl) (fun _ _ _ h => h) (by rfl) ?hyc2 hS0 trivial ?goc2
          case hyc2 =>
            intro w9 hT9
            clear hT9; go_simp
          (try simp only [Act.put, List.setIfInBounds_toArray, List.set_cons_zero, List.set_cons_succ])
          refine wpE_takeS (i := 2) (d := some 89) (v := .int .i64 x.ent) rfl rfl (by kernel_rfl) (by kernel_rfl) (by kernel_rfl) (by kernel_rfl) (fun _ _ _ h => h) (by rfl) ?hyc3 hS0 trivial ?goc3
          case hyc3 =>
            intro w9 hT9
            obtain ⟨⟨⟨y9, y0, y1, y2⟩, y3, y4, y5⟩, y6, y7⟩ := hT9; go_simp
          (try simp only [Act.put, List.setIfInBounds_toArray, List.set_cons_zero, List.set_cons_succ])
          refine wpE_takeS (i := 3) (d := some 90) (v := .pointer (some ⟨z8, 2, none⟩)) rfl rfl (by kernel_rfl) (by kernel_rfl) (by kernel_rfl) (by kernel_rfl) (fun _ _ _ h => h) (by rfl) ?hyc4 hS0 trivial ?goc4
          case hyc4 =>
            intro w9 hT9
            clear hT9; go_simp
          (try simp only [Act.put, List.setIfInBounds_toArray, List.set_cons_zero, List.set_cons_succ])
          refine wpE_takeS (i := 4) (d := some 91) (v := .slice (some ⟨bv, ov, none⟩) nv c1) rfl rfl (by kernel_rfl) (by kernel_rfl) (by kernel_rfl) (by kernel_rfl) (fun _ _ _ h => h) (by rfl) ?hyc5 hS0 trivial ?goc5
          case hyc5 =>
            intro w9 hT9
            obtain ⟨⟨⟨y9, y0, y1, y2⟩, y3, y4, y5⟩, y6, y7⟩ := hT9; go_simp
          (try simp only [Act.put, List.setIfInBounds_toArray, List.set_cons_zero, List.set_cons_succ])
          refine wpE_takeS (i := 5) (d := some 92) (v := .int .i64 (j : Int)) rfl rfl (by kernel_rfl) (by kernel_rfl) (by kernel_rfl) (by kernel_rfl) (fun _ _ _ h => h) (by rfl) ?hyc6 hS0 trivial ?goc6
          case hyc6 =>
            intro w9 hT9
            clear hT9; go_simp
          (try simp only [Act.put, List.setIfInBounds_toArray, List.set_cons_zero, List.set_cons_succ])
          refine wpE_takeS (i := 6) (d := some 93) (v := .pointer (some ⟨bv, ov + j, none⟩)) rfl rfl (by kernel_rfl) (by kernel_rfl) (by kernel_rfl) (by kernel_rfl) (fun _ _ _ h => h) (by rfl) ?hyc7 hS0 trivial ?goc7
          case hyc7 =>
            intro w9 hT9
            clear hT9; go_simp
          (try simp only [Act.put, List.setIfInBounds_toArray, List.set_cons_zero, List.set_cons_succ])
          refine wpE_takeS (i := 7) (d := some 94) (v := .int .i64 vk) rfl rfl (by kernel_rfl) (by kernel_rfl) (by kernel_rfl) (by kernel_rfl) (fun _ _ _ h => h) (by rfl) ?hyc8 hS0 trivial ?goc8
          case hyc8 =>
            intro w9 hT9
            obtain ⟨⟨⟨y9, y0, y1, y2⟩, y3, y4, y5⟩, y6, y7⟩ := hT9; go_simp
          (try simp only [Act.put, List.setIfInBounds_toArray, List.set_cons_zero, List.set_cons_succ])
          refine wpE_takeS (i := 8) (d := some 95) (v := .int .i64 (n : Int)) rfl rfl (by kernel_rfl) (by kernel_rfl) (by kernel_rfl) (by kernel_rfl) (fun _ _ _ h => h) (by rfl) ?hyc9 hS0 trivial ?goc9
          case hyc9 =>
            intro w9 hT9
            clear hT9; go_simp
          (try simp only [Act.put, List.setIfInBounds_toArray, List.set_cons_zero, List.set_cons_succ])
          refine wpE_all (rs := [9, 14]) (by kernel_rfl) (by simp) ?_
          refine AllE.cons rfl (fun K hK => ?_) (AllE.cons rfl (fun K hK => ?_) AllE.nil)
          · skip
            simp only [List.getElem_toArray, List.getElem_cons_succ, List.getElem_cons_zero]
            go_simp
            go_at_call 33
            refine (HWH.out _ hcur).mono ?_
            rintro z9 wg (⟨hw0, rfl, hxg⟩ | ⟨nu, su, li, hw0, rfl, hxg⟩)
            · have hcur : Ext w8 wg := hcur.trans hxg
              simp only []
              refine hK.out _ _ ⟨fun _ => (HQA.out _ hcur), trivial⟩ (fun _ => ?_)
              clear hK K
              have hS0 := (HQA.out _ hcur)
              (try simp only [Act.put, List.setIfInBounds_toArray, List.set_cons_zero, List.set_cons_succ])
              refine wpE_takeS (i := 10) (d := some 86) (v := .tuple #[.agg #[.int .i64 0, .int .i64 0], .int .i64 0, .bool false]) rfl rfl (by kernel_rfl) (by kernel_rfl) (by kernel_rfl) (by kernel_rfl) (fun _ _ _ h => h) (by rfl) ?hyc10 hS0 trivial ?goc10
              case hyc10 =>
                intro w9 hT9
                clear hT9; go_simp
              (try simp only [Act.put, List.setIfInBounds_toArray, List.set_cons_zero, List.set_cons_succ])
              refine wpE_takeS (i := 11) (d := some 97) (v := .agg #[.int .i64 0, .int .i64 0]) rfl rfl (by kernel_rfl) (by kernel_rfl) (by kernel_rfl) (by kernel_rfl) (fun _ _ _ h => h) (by rfl) ?hyc11 hS0 trivial ?goc11
              case hyc11 =>
                intro w9 hT9
                clear hT9; go_simp
              (try simp only [Act.put, List.setIfInBounds_toArray, List.set_cons_zero, List.set_cons_succ])
              refine wpE_takeS (i := 12) (d := some 98) (v := .int .i64 0) rfl rfl (by kernel_rfl) (by kernel_rfl) (by kernel_rfl) (by kernel_rfl) (fun _ _ _ h => h) (by rfl) ?hyc12 hS0 trivial ?goc12
              case hyc12 =>
                intro w9 hT9
                clear hT9; go_simp
              (try simp only [Act.put, List.setIfInBounds_toArray, List.set_cons_zero, List.set_cons_succ])
              refine wpE_takeS (i := 13) (d := some 99) (v := .bool false) rfl rfl (by kernel_rfl) (by kernel_rfl) (by kernel_rfl) (by kernel_rfl) (fun _ _ _ h => h) (by rfl) ?hyc13 hS0 trivial ?goc13
              case hyc13 =>
                intro w9 hT9
                clear hT9; go_simp
              (try simp only [Act.put, List.setIfInBounds_toArray, List.set_cons_zero, List.set_cons_succ])
              refine wpE_all (rs := [14]) (by kernel_rfl) (by simp) ?_
              refine AllE.cons rfl (fun K hK => ?_) AllE.nil
              simp only [List.getElem_toArray, List.getElem_cons_succ, List.getElem_cons_zero]
              go_simp
              refine hK.out _ _ ⟨fun _ => (HQA.out _ (hcur.alloc (.cells #[.int .i64 0, .int .i64 0] 64))), trivial⟩ (fun _ => ?_)
              clear hK K
              have hS0 := (HQA.out _ (hcur.alloc (.cells #[.int .i64 0, .int .i64 0] 64)))
              (try simp only [Act.put, List.setIfInBounds_toArray, List.set_cons_zero, List.set_cons_succ])
              refine wpE_all (rs := [15]) (by kernel_rfl) (by simp) ?_
              refine AllE.cons rfl (fun K hK => ?_) AllE.nil
              simp only [List.getElem_toArray, List.getElem_cons_succ, List.getElem_cons_zero]
              go_simp
              refine hK.out _ _ ⟨fun _ => HQA.out _ (hcur.alloc _), trivial⟩ (fun _ => ?_)
              clear hK K
              (try simp only [Act.put, List.setIfInBounds_toArray, List.set_cons_zero, List.set_cons_succ])
              have HFIN := Lib.hid (show WhC w8 b x.ent vk (n : Int) (.pointer (some ⟨wg.heap.size, 0, none⟩)) (.int .i64 0) (.bool false) (wg.alloc (.cells #[.int .i64 0, .int .i64 0] 64)) from ⟨_, 0, 0, 0, false, rfl, rfl, rfl, heap_alloc_new _ _, (fun h => by cases h), hcur.alloc _⟩)
              have hS9 : True := trivial
              refine wpE_all (rs := [16]) (by kernel_rfl) (by simp) ?_
              refine AllE.cons rfl (fun K hK => ?_) AllE.nil
              simp only [List.getElem_toArray, List.getElem_cons_succ, List.getElem_cons_zero]
              go_simp
              refine hK.out _ _ ⟨fun _ => HQA.out _ (hcur.alloc _), trivial⟩ (fun _ => ?_)
              clear hK K
              (try simp only [Act.put, List.setIfInBounds_toArray, List.set_cons_zero, List.set_cons_succ])
              refine wpE_all (rs := [17]) (by kernel_rfl) (by simp) ?_
              refine AllE.cons rfl (fun K hK => ?_) AllE.nil
              simp only [List.getElem_toArray, List.getElem_cons_succ, List.getElem_cons_zero]
              go_simp
              refine hK.out _ _ ⟨fun h => absurd h (by simp), trivial⟩ (fun _ => ?_)
              clear hK K
              (try simp only [Act.put, List.setIfInBounds_toArray, List.set_cons_zero, List.set_cons_succ])
              refine wpE_done (by kernel_rfl) ?_ _
              go_wp2
              go_meet
              case rel => exact HFIN.out
            · have hcur : Ext w8 wg := hcur.trans hxg
              simp only []
              refine hK.out _ _ ⟨fun _ => (HQA.out _ hcur), trivial⟩ (fun _ => ?_)
              clear hK K
              have hS0 := (HQA.out _ hcur)
              (try simp only [Act.put, List.setIfInBounds_toArray, List.set_cons_zero, List.set_cons_succ])
              refine wpE_takeS (i := 10) (d := some 86) (v := .tuple #[.agg #[.int .i64 nu, .int .i64 su], .int .i64 (li : Int), .bool true]) rfl rfl (by kernel_rfl) (by kernel_rfl) (by kernel_rfl) (by kernel_rfl) (fun _ _ _ h => h) (by rfl) ?hyc14 hS0 trivial ?goc14
              case hyc14 =>
                intro w9 hT9
                clear hT9; go_simp
              (try simp only [Act.put, List.setIfInBounds_toArray, List.set_cons_zero, List.set_cons_succ])
              refine wpE_takeS (i := 11) (d := some 97) (v := .agg #[.int .i64 nu, .int .i64 su]) rfl rfl (by kernel_rfl) (by kernel_rfl) (by kernel_rfl) (by kernel_rfl) (fun _ _ _ h => h) (by rfl) ?hyc15 hS0 trivial ?goc15
              case hyc15 =>
                intro w9 hT9
                clear hT9; go_simp
              (try simp only [Act.put, List.setIfInBounds_toArray, List.set_cons_zero, List.set_cons_succ])
              refine wpE_takeS (i := 12) (d := some 98) (v := .int .i64 (li : Int)) rfl rfl (by kernel_rfl) (by kernel_rfl) (by kernel_rfl) (by kernel_rfl) (fun _ _ _ h => h) (by rfl) ?hyc16 hS0 trivial ?goc16
              case hyc16 =>
                intro w9 hT9
                clear hT9; go_simp
              (try simp only [Act.put, List.setIfInBounds_toArray, List.set_cons_zero, List.set_cons_succ])
              refine wpE_takeS (i := 13) (d := some 99) (v := .bool true) rfl rfl (by kernel_rfl) (by kernel_rfl) (by kernel_rfl) (by kernel_rfl) (fun _ _ _ h => h) (by rfl) ?hyc17 hS0 trivial ?goc17
              case hyc17 =>
                intro w9 hT9
                clear hT9; go_simp
              (try simp only [Act.put, List.setIfInBounds_toArray, List.set_cons_zero, List.set_cons_succ])
              refine wpE_all (rs := [14]) (by kernel_rfl) (by simp) ?_
              refine AllE.cons rfl (fun K hK => ?_) AllE.nil
              simp only [List.getElem_toArray, List.getElem_cons_succ, List.getElem_cons_zero]
              go_simp
              refine hK.out _ _ ⟨fun _ => (HQA.out _ (hcur.alloc (.cells #[.int .i64 0, .int .i64 0] 64))), trivial⟩ (fun _ => ?_)
              clear hK K
              have hS0 := (HQA.out _ (hcur.alloc (.cells #[.int .i64 0, .int .i64 0] 64)))
              (try simp only [Act.put, List.setIfInBounds_toArray, List.set_cons_zero, List.set_cons_succ])
              refine wpE_all (rs := [15]) (by kernel_rfl) (by simp) ?_
              refine AllE.cons rfl (fun K hK => ?_) AllE.nil
              simp only [List.getElem_toArray, List.getElem_cons_succ, List.getElem_cons_zero]
              go_simp
              refine hK.out _ _ ⟨fun _ => HQA.out _ (hcur.alloc _), trivial⟩ (fun _ => ?_)
              clear hK K
              (try simp only [Act.put, List.setIfInBounds_toArray, List.set_cons_zero, List.set_cons_succ])
              have HFIN := Lib.hid (show WhC w8 b x.ent vk (n : Int) (.pointer (some ⟨wg.heap.size, 0, none⟩)) (.int .i64 (li : Int)) (.bool true) (wg.alloc (.cells #[.int .i64 nu, .int .i64 su] 64)) from ⟨_, nu, su, li, true, rfl, rfl, rfl, heap_alloc_new _ _, (fun _ => hw0), hcur.alloc _⟩)
              have hS9 : True := trivial
              refine wpE_all (rs := [16]) (by kernel_rfl) (by simp) ?_
              refine AllE.cons rfl (fun K hK => ?_) AllE.nil
              simp only [List.getElem_toArray, List.getElem_cons_succ, List.getElem_cons_zero]
              go_simp
              refine hK.out _ _ ⟨fun _ => HQA.out _ (hcur.alloc _), trivial⟩ (fun _ => ?_)
              clear hK K
              (try simp only [Act.put, List.setIfInBounds_toArray, List.set_cons_zero, List.set_cons_succ])
              refine wpE_all (rs := [17]) (by kernel_rfl) (by simp) ?_
              refine AllE.cons rfl (fun K hK => ?_) AllE.nil
              simp only [List.getElem_toArray, List.getElem_cons_succ, List.getElem_cons_zero]
              go_simp
              refine hK.out _ _ ⟨fun h => absurd h (by simp), trivial⟩ (fun _ => ?_)
              clear hK K
              (try simp only [Act.put, List.setIfInBounds_toArray, List.set_cons_zero, List.set_cons_succ])
              refine wpE_done (by kernel_rfl) ?_ _
              go_wp2
              go_meet
              case rel => exact HFIN.out
          · skip
            simp only [List.getElem_toArray, List.getElem_cons_succ, List.getElem_cons_zero]
            go_simp
            refine hK.out _ _ ⟨fun _ => (HQA.out _ (hcur.alloc (.cells #[.int .i64 0, .int .i64 0] 64))), trivial⟩ (fun _ => ?_)
            clear hK K
            have hS0 := (HQA.out _ (hcur.alloc (.cells #[.int .i64 0, .int .i64 0] 64)))
            (try simp only [Act.put, List.setIfInBounds_toArray, List.set_cons_zero, List.set_cons_succ])
            refine wpE_all (rs := [9]) (by kernel_rfl) (by simp) ?_
            refine AllE.cons rfl (fun K hK => ?_) AllE.nil
            simp only [List.getElem_toArray, List.getElem_cons_succ, List.getElem_cons_zero]
            go_simp
            go_at_call 33
            refine (HWH.out _ (hcur.alloc (.cells #[.int .i64 0, .int .i64 0] 64))).mono ?_
            rintro z9 wg (⟨hw0, rfl, hxg⟩ | ⟨nu, su, li, hw0, rfl, hxg⟩)
            · have hcur : Ext w8 wg := (hcur.alloc (.cells #[.int .i64 0, .int .i64 0] 64)).trans hxg
              simp only []
              refine hK.out _ _ ⟨fun _ => (HQA.out _ hcur), trivial⟩ (fun _ => ?_)
              clear hK K
              have hS0 := (HQA.out _ hcur)
              (try simp only [Act.put, List.setIfInBounds_toArray, List.set_cons_zero, List.set_cons_succ])
              refine wpE_takeS (i := 10) (d := some 86) (v := .tuple #[.agg #[.int .i64 0, .int .i64 0], .int .i64 0, .bool false]) rfl rfl (by kernel_rfl) (by kernel_rfl) (by kernel_rfl) (by kernel_rfl) (fun _ _ _ h => h) (by rfl) ?hyc18 hS0 trivial ?goc18
              case hyc18 =>
                intro w9 hT9
                clear hT9; go_simp
              (try simp only [Act.put, List.setIfInBounds_toArray, List.set_cons_zero, List.set_cons_succ])
              refine wpE_takeS (i := 11) (d := some 97) (v := .agg #[.int .i64 0, .int .i64 0]) rfl rfl (by kernel_rfl) (by kernel_rfl) (by kernel_rfl) (by kernel_rfl) (fun _ _ _ h => h) (by rfl) ?hyc19 hS0 trivial ?goc19
              case hyc19 =>
                intro w9 hT9
                clear hT9; go_simp
              (try simp only [Act.put, List.setIfInBounds_toArray, List.set_cons_zero, List.set_cons_succ])
              refine wpE_takeS (i := 12) (d := some 98) (v := .int .i64 0) rfl rfl (by kernel_rfl) (by kernel_rfl) (by kernel_rfl) (by kernel_rfl) (fun _ _ _ h => h) (by rfl) ?hyc20 hS0 trivial ?goc20
              case hyc20 =>
                intro w9 hT9
                clear hT9; go_simp
              (try simp only [Act.put, List.setIfInBounds_toArray, List.set_cons_zero, List.set_cons_succ])
              refine wpE_takeS (i := 13) (d := some 99) (v := .bool false) rfl rfl (by kernel_rfl) (by kernel_rfl) (by kernel_rfl) (by kernel_rfl) (fun _ _ _ h => h) (by rfl) ?hyc21 hS0 trivial ?goc21
              case hyc21 =>
                intro w9 hT9
                clear hT9; go_simp
              (try simp only [Act.put, List.setIfInBounds_toArray, List.set_cons_zero, List.set_cons_succ])
              have hV : wg.heap[w8.heap.size]? = some (.cells #[.int .i64 0, .int .i64 0] 64 (0, 0)) := (hxg.block _ (by rw [World.size_alloc]; exact Nat.lt_succ_self _)).trans (heap_alloc_new w8.drew _)
              have f0 := frozen_of hV 0
              have f1 := frozen_of hV 1
              have v09 := cell_of hV (i := 0) (u := .int .i64 0) rfl
              have v19 := cell_of hV (i := 1) (u := .int .i64 0) rfl
              refine wpE_all (rs := [15]) (by kernel_rfl) (by simp) ?_
              refine AllE.cons rfl (fun K hK => ?_) AllE.nil
              simp only [List.getElem_toArray, List.getElem_cons_succ, List.getElem_cons_zero]
              go_simp
              refine hK.out _ _ ⟨fun _ => HQA.out _ ((hcur.setCell (p := ⟨w8.heap.size, 0, none⟩) (Nat.le_refl _) _).setCell (p := ⟨w8.heap.size, 1, none⟩) (Nat.le_refl _) _), trivial⟩ (fun _ => ?_)
              clear hK K
              (try simp only [Act.put, List.setIfInBounds_toArray, List.set_cons_zero, List.set_cons_succ])
              clear f0 f1 v09 v19
              have HFIN := Lib.hid (show WhC w8 b x.ent vk (n : Int) (.pointer (some ⟨w8.heap.size, 0, none⟩)) (.int .i64 0) (.bool false) ((wg.setCell ⟨w8.heap.size, 0, none⟩ (.int .i64 0)).setCell ⟨w8.heap.size, 1, none⟩ (.int .i64 0)) from ⟨_, 0, 0, 0, false, rfl, rfl, rfl, heap_setCell_same _ _ 1 _ 64 _ (heap_setCell_same _ _ 0 _ 64 _ hV), (fun h => by cases h), ((hcur.setCell (p := ⟨w8.heap.size, 0, none⟩) (Nat.le_refl _) _).setCell (p := ⟨w8.heap.size, 1, none⟩) (Nat.le_refl _) _)⟩)
              have hS9 : True := trivial
              refine wpE_all (rs := [16]) (by kernel_rfl) (by simp) ?_
              refine AllE.cons rfl (fun K hK => ?_) AllE.nil
              simp only [List.getElem_toArray, List.getElem_cons_succ, List.getElem_cons_zero]
              go_simp
              refine hK.out _ _ ⟨fun _ => HQA.out _ ((hcur.setCell (p := ⟨w8.heap.size, 0, none⟩) (Nat.le_refl _) _).setCell (p := ⟨w8.heap.size, 1, none⟩) (Nat.le_refl _) _), trivial⟩ (fun _ => ?_)
              clear hK K
              (try simp only [Act.put, List.setIfInBounds_toArray, List.set_cons_zero, List.set_cons_succ])
              refine wpE_all (rs := [17]) (by kernel_rfl) (by simp) ?_
              refine AllE.cons rfl (fun K hK => ?_) AllE.nil
              simp only [List.getElem_toArray, List.getElem_cons_succ, List.getElem_cons_zero]
              go_simp
              refine hK.out _ _ ⟨fun h => absurd h (by simp), trivial⟩ (fun _ => ?_)
              clear hK K
              (try simp only [Act.put, List.setIfInBounds_toArray, List.set_cons_zero, List.set_cons_succ])
              refine wpE_done (by kernel_rfl) ?_ _
              go_wp2
              go_meet
              case rel => exact HFIN.out
            · have hcur : Ext w8 wg := (hcur.alloc (.cells #[.int .i64 0, .int .i64 0] 64)).trans hxg
              simp only []
              refine hK.out _ _ ⟨fun _ => (HQA.out _ hcur), trivial⟩ (fun _ => ?_)
              clear hK K
              have hS0 := (HQA.out _ hcur)
              (try simp only [Act.put, List.setIfInBounds_toArray, List.set_cons_zero, List.set_cons_succ])
              refine wpE_takeS (i := 10) (d := some 86) (v := .tuple #[.agg #[.int .i64 nu, .int .i64 su], .int .i64 (li : Int), .bool true]) rfl rfl (by kernel_rfl) (by kernel_rfl) (by kernel_rfl) (by kernel_rfl) (fun _ _ _ h => h) (by rfl) ?hyc22 hS0 trivial ?goc22
              case hyc22 =>
                intro w9 hT9
                clear hT9; go_simp
              (try simp only [Act.put, List.setIfInBounds_toArray, List.set_cons_zero, List.set_cons_succ])
              refine wpE_takeS (i := 11) (d := some 97) (v := .agg #[.int .i64 nu, .int .i64 su]) rfl rfl (by kernel_rfl) (by kernel_rfl) (by kernel_rfl) (by kernel_rfl) (fun _ _ _ h => h) (by rfl) ?hyc23 hS0 trivial ?goc23
              case hyc23 =>
                intro w9 hT9
                clear hT9; go_simp
              (try simp only [Act.put, List.setIfInBounds_toArray, List.set_cons_zero, List.set_cons_succ])
              refine wpE_takeS (i := 12) (d := some 98) (v := .int .i64 (li : Int)) rfl rfl (by kernel_rfl) (by kernel_rfl) (by kernel_rfl) (by kernel_rfl) (fun _ _ _ h => h) (by rfl) ?hyc24 hS0 trivial ?goc24
              case hyc24 =>
                intro w9 hT9
                clear hT9; go_simp
              (try simp only [Act.put, List.setIfInBounds_toArray, List.set_cons_zero, List.set_cons_succ])
              refine wpE_takeS (i := 13) (d := some 99) (v := .bool true) rfl rfl (by kernel_rfl) (by kernel_rfl) (by kernel_rfl) (by kernel_rfl) (fun _ _ _ h => h) (by rfl) ?hyc25 hS0 trivial ?goc25
              case hyc25 =>
                intro w9 hT9
                clear hT9; go_simp
              (try simp only [Act.put, List.setIfInBounds_toArray, List.set_cons_zero, List.set_cons_succ])
              have hV : wg.heap[w8.heap.size]? = some (.cells #[.int .i64 0, .int .i64 0] 64 (0, 0)) := (hxg.block _ (by rw [World.size_alloc]; exact Nat.lt_succ_self _)).trans (heap_alloc_new w8.drew _)
              have f0 := frozen_of hV 0
              have f1 := frozen_of hV 1
              have v09 := cell_of hV (i := 0) (u := .int .i64 0) rfl
              have v19 := cell_of hV (i := 1) (u := .int .i64 0) rfl
              refine wpE_all (rs := [15]) (by kernel_rfl) (by simp) ?_
              refine AllE.cons rfl (fun K hK => ?_) AllE.nil
              simp only [List.getElem_toArray, List.getElem_cons_succ, List.getElem_cons_zero]
              go_simp
              refine hK.out _ _ ⟨fun _ => HQA.out _ ((hcur.setCell (p := ⟨w8.heap.size, 0, none⟩) (Nat.le_refl _) _).setCell (p := ⟨w8.heap.size, 1, none⟩) (Nat.le_refl _) _), trivial⟩ (fun _ => ?_)
              clear hK K
              (try simp only [Act.put, List.setIfInBounds_toArray, List.set_cons_zero, List.set_cons_succ])
              clear f0 f1 v09 v19
              have HFIN := Lib.hid (show WhC w8 b x.ent vk (n : Int) (.pointer (some ⟨w8.heap.size, 0, none⟩)) (.int .i64 (li : Int)) (.bool true) ((wg.setCell ⟨w8.heap.size, 0, none⟩ (.int .i64 nu)).setCell ⟨w8.heap.size, 1, none⟩ (.int .i64 su)) from ⟨_, nu, su, li, true, rfl, rfl, rfl, heap_setCell_same _ _ 1 _ 64 _ (heap_setCell_same _ _ 0 _ 64 _ hV), (fun _ => hw0), ((hcur.setCell (p := ⟨w8.heap.size, 0, none⟩) (Nat.le_refl _) _).setCell (p := ⟨w8.heap.size, 1, none⟩) (Nat.le_refl _) _)⟩)
              have hS9 : True := trivial
              refine wpE_all (rs := [16]) (by kernel_rfl) (by simp) ?_
              refine AllE.cons rfl (fun K hK => ?_) AllE.nil
              simp only [List.getElem_toArray, List.getElem_cons_succ, List.getElem_cons_zero]
              go_simp
              refine hK.out _ _ ⟨fun _ => HQA.out _ ((hcur.setCell (p := ⟨w8.heap.size, 0, none⟩) (Nat.le_refl _) _).setCell (p := ⟨w8.heap.size, 1, none⟩) (Nat.le_refl _) _), trivial⟩ (fun _ => ?_)
              clear hK K
              (try simp only [Act.put, List.setIfInBounds_toArray, List.set_cons_zero, List.set_cons_succ])
              refine wpE_all (rs := [17]) (by kernel_rfl) (by simp) ?_
              refine AllE.cons rfl (fun K hK => ?_) AllE.nil
              simp only [List.getElem_toArray, List.getElem_cons_succ, List.getElem_cons_zero]
              go_simp
              refine hK.out _ _ ⟨fun h => absurd h (by simp), trivial⟩ (fun _ => ?_)
              clear hK K
              (try simp only [Act.put, List.setIfInBounds_toArray, List.set_cons_zero, List.set_cons_succ])
              refine wpE_done (by kernel_rfl) ?_ _
              go_wp2
              go_meet
              case rel => exact HFIN.out
        case rest =>
          obtain ⟨zl, nu, su, li, st, rfl, rfl, rfl, hzl, hst, hxl⟩ := hcut
          have HZL := Lib.hid hzl
          have HST := Lib.hid hst
          have HXL := Lib.hid hxl
          have HX9 := Lib.hid (HX8.out.trans hxl)
          clear hzl hst hxl hcur
          have HQC := Lib.hid (fun X (hX : Ext wc X) => HQA.out X (HXL.out.trans hX))
          have hcur : Ext wc wc.drew := (Ext.refl _).drew
          obtain ⟨⟨⟨p9, p0, p1, p2⟩, q0, q2, v0⟩, y1, y2⟩ := HQC.out _ (Ext.refl wc)
          have hwn1 := HWN.out
          cases st with
          | false =>
            go_upto_region 15 with (fail)
            go_quiet (fail)
            go_wp2_with fail
            go_roundw
            case rel => exact ⟨n + 1, by have := HNI.out; omega, by go_num, HX9.out.drewN _⟩
            case measure => have := HNI.out; simp only [toM]; omega
          | true =>
          by_cases hk0 : y.key = []
          · have hkb : (y.key == []) = true := by simpa using hk0
            clear hk0
            go_upto_region 15 with (fail)
            go_quiet (fail)
            go_wp2_with fail
            go_roundw
            case rel => exact ⟨n + 1, by have := HNI.out; omega, by go_num, HX9.out.drewN _⟩
            case measure => have := HNI.out; simp only [toM]; omega
          have hkb : (y.key == []) = false := by simpa using hk0
          by_cases ht0 : y.tb = t
          case neg =>
            have htb : (y.tb == t) = false := by simpa using ht0
            have htn : (y.tb != t) = true := by simpa using ht0
            clear hk0 ht0
            go_upto_region 15 with (fail)
            go_quiet (fail)
            go_wp2_with fail
            go_roundw
            case rel => exact ⟨n + 1, by have := HNI.out; omega, by go_num, HX9.out.drewN _⟩
            case measure => have := HNI.out; simp only [toM]; omega
          have htb : (y.tb == t) = true := by simpa using ht0
          have htn : (y.tb != t) = false := by simpa using ht0
          have HK0 := Lib.hid hk0
          have HT0 := Lib.hid ht0
          have HGR := Lib.hid (fun X (hX : Ext wc X) => groups_any _ X S m cS ls x.ent vk (n : Int) (HRS.out X (HX8S.out.trans (HXL.out.trans hX))) HM8.out HGS.out)
          obtain ⟨sl, hsl⟩ : ∃ sl, seald ls x.ent vk (n : Int) = sl := ⟨_, rfl⟩
          rw [hsl] at HGR
          have HSL := Lib.hid hsl
          clear hk0 ht0 hsl
          go_upto_region 15 with (fail)
          go_cut [125] (fun s125 wx => s125 = .bool sl ∧ Ext wc wx)
          case first =>
            cases sl with
            | true =>
              go_region_held3 (fun X : World => ((X.cell? ⟨z, 2, none⟩ = some (.int .i64 br) ∧ X.cell? ⟨g, 0, none⟩ = some (.int .i64 b.ms) ∧ X.cell? ⟨g, 1, none⟩ = some (.int .i64 b.ht) ∧ X.cell? ⟨g, 2, none⟩ = some (.slice (some ⟨bs, os, none⟩) N cB)) ∧ X.cell? ⟨z8, 0, none⟩ = some (.int .i64 x.ent) ∧ X.cell? ⟨z8, 2, none⟩ = some (.slice (some ⟨bv, ov, none⟩) nv c1) ∧ X.cell? ⟨bv, ov + j, none⟩ = some (.int .i64 vk)) ∧ X.cell? ⟨zw, 1, none⟩ = some (.string ⟨y.key.toArray⟩) ∧ X.cell? ⟨zw, 2, none⟩ = some (.int .i64 y.tb)) (exact HQC.out _ hcur)
                (first | (go_at_call 34; refine (HGR.out _ hcur).mono ?_; rintro e wq ⟨gq, rfl, hgq, hxq⟩; have hcur := hcur.trans hxq; have hg0 : (gq == 0) = false := beq_eq_false_iff_ne.2 (fun e9 => absurd (hgq.1 e9) (by decide)); clear hgq))
              all_goals
                go_wp2
                go_meet
                case rel => exact ⟨by first | rfl | simp [bne, hg0], hcur⟩
            | false =>
              go_region_held3 (fun X : World => ((X.cell? ⟨z, 2, none⟩ = some (.int .i64 br) ∧ X.cell? ⟨g, 0, none⟩ = some (.int .i64 b.ms) ∧ X.cell? ⟨g, 1, none⟩ = some (.int .i64 b.ht) ∧ X.cell? ⟨g, 2, none⟩ = some (.slice (some ⟨bs, os, none⟩) N cB)) ∧ X.cell? ⟨z8, 0, none⟩ = some (.int .i64 x.ent) ∧ X.cell? ⟨z8, 2, none⟩ = some (.slice (some ⟨bv, ov, none⟩) nv c1) ∧ X.cell? ⟨bv, ov + j, none⟩ = some (.int .i64 vk)) ∧ X.cell? ⟨zw, 1, none⟩ = some (.string ⟨y.key.toArray⟩) ∧ X.cell? ⟨zw, 2, none⟩ = some (.int .i64 y.tb)) (exact HQC.out _ hcur)
                (first | (go_at_call 34; refine (HGR.out _ hcur).mono ?_; rintro e wq ⟨gq, rfl, hgq, hxq⟩; have hcur := hcur.trans hxq; obtain rfl : gq = 0 := hgq.2 rfl; clear hgq))
              all_goals
                go_wp2
                go_meet
                case rel => exact ⟨rfl, hcur⟩
          case rest =>
            obtain ⟨rfl, hxd⟩ := hcut
            have HXD := Lib.hid (HX9.out.trans hxd)
            have HXLD := Lib.hid (HXL.out.trans hxd)
            have HZD := Lib.hid (fun X (hX : Ext wc X) => (show X.cell? ⟨zl, 0, none⟩ = some (.int .i64 nu) ∧ X.cell? ⟨zl, 1, none⟩ = some (.int .i64 su) from
              have h9 := ((hxd.trans hX).block _ (lt_of_block HZL.out)).trans HZL.out
              ⟨cell_of h9 (i := 0) rfl, cell_of h9 (i := 1) rfl⟩))
            have HQD := Lib.hid (fun X (hX : Ext wc X) => HQA.out X (HXLD.out.trans hX))
            clear hxd p9 p0 p1 p2 q0 q2 v0 y1 y2 hcur
            cases sl with
            | true =>
              go_wp2_with fail
              go_roundw
              case rel => exact ⟨n + 1, by have := HNI.out; omega, by go_num, HXD.out⟩
              case measure => have := HNI.out; simp only [toM]; omega
            | false =>
            have HHAS := Lib.hid (show Has (itemsB br t ls b) y.key ⟨br, nu, su, li⟩ from (has_items _ _ _ _ _ _).2 (hit_where HOK.out HXI.out (HND.out x HXI.out) HVK.out HTK.out (HST.out rfl) HWT.out HK0.out HT0.out HSL.out))
            have HREG := Lib.hid (reg_items br t ls b)
            obtain ⟨TB, hTB⟩ : ∃ TB, itemsB br t ls b = TB := ⟨_, rfl⟩
            have HTB9 := Lib.hid (HTA.out)
            rw [hTB] at HHAS HREG HTB9
            clear hTB
            have y1 := (HQD.out _ (Ext.refl _)).2.1
            have HSO := Lib.hid (show (findP TB y.key).isSome = true from (find_is HREG.out y.key).2 ⟨_, HHAS.out⟩)
            have HMEM := Lib.hid (show (⟨br, nu, su, li⟩ : Ct) ∈ plc TB y.key from (mem_plc HREG.out y.key _).2 HHAS.out)
            go_wp2_with fail
            refine (ifind_any wc TB y.key Aa na ca 16000000 (HTB9.out.ext HXD.out) (by omega)).mono ?_
            rintro e w10 ⟨Ap, np, cp, rfl, hnp, hrp, hxp⟩
            rw [HSO.out]
            have HRP := Lib.hid hrp
            have HNP := Lib.hid (Lay.row_len hrp)
            have HXP := Lib.hid hxp
            have hnpb : np ≤ 16000000 := by
              have h8 := Lay.row_len hrp
              have h9 := plc_big9 HTB9.out y.key
              omega
            obtain ⟨pl, hpl⟩ : ∃ pl, plc TB y.key = pl := ⟨_, rfl⟩
            rw [hpl] at HRP HNP HMEM
            clear hrp hxp hnp y1 hpl
            go_wp2_with fail
            go_loopw [19, 20] (fun s19 s20 W => FcR w10 ⟨br, nu, su, li⟩ pl s19 s20 W) (fun _ s20 _ => toM np s20)
            case atStart => exact ⟨0, false, Nat.zero_le _, rfl, rfl, (fun h => by simp at h), Ext.refl _⟩
            case round =>
              obtain ⟨q, f, hq, rfl, rfl, hf, hxq⟩ := hrel
              have HXQ := Lib.hid (HXP.out.trans hxq)
              have HXR2 := Lib.hid hxq
              have HF := Lib.hid hf
              clear hxq hf
              have hwq : IntKind.i64.wrap ((q : Int) + 1) = (q : Int) + 1 := IntWalk.i64_in _ (by have := HNP.out; omega)
              by_cases hqn : q < np
              case neg =>
                have hQ : ¬ (q : Int) < (np : Int) := by omega
                obtain rfl : f = true := HF.out (by rw [List.take_of_length_le (by have := HNP.out; omega)]; exact HMEM.out)
                have hwn1 := HWN.out
                go_wp2_with fail
                go_roundw
                case rel => exact ⟨n + 1, by have := HNI.out; omega, by go_num, HXD.out.trans HXQ.out⟩
                case measure => have := HNI.out; simp only [toM]; omega
              have hQ : (q : Int) < (np : Int) := by omega
              obtain ⟨yq, hyq⟩ : ∃ yq, pl[q]? = some yq := ⟨_, List.getElem?_eq_getElem (by have := HNP.out; omega)⟩
              have HNX := Lib.hid (fun f' (hf' : (f = true → f' = true) ∧ (yq = ⟨br, nu, su, li⟩ → f' = true)) => (show (⟨br, nu, su, li⟩ : Ct) ∈ pl.take (q + 1) → f' = true from fun hm => by
                rw [List.take_add_one, hyq] at hm
                rcases List.mem_append.1 hm with h9 | h9
                · exact hf'.1 (HF.out h9)
                · simp only [Option.toList_some, List.mem_singleton] at h9
                  exact hf'.2 h9.symm))
              go_upto_region 21 with (fail)
              cases f with
              | true =>
                go_quiet (fail)
                go_wp2_with fail
                go_roundw
                case rel => exact ⟨q + 1, true, by have := HNP.out; omega, rfl, by go_num, HNX.out true ⟨fun _ => rfl, fun _ => rfl⟩, HXR2.out.drewN _⟩
                case measure => simp only [toM]; omega
              | false =>
                obtain ⟨bp, op, rfl, hbp, _, d0, d1, d2, d3⟩ := ct_at (Lay.row_ext HRP.out HXR2.out) hyq
                obtain ⟨u0, u1⟩ := HZD.out _ HXQ.out
                have p9 := (HQD.out _ HXQ.out).1.1.1
                obtain ⟨r, hr⟩ : ∃ r, decide (yq = (⟨br, nu, su, li⟩ : Ct)) = r := ⟨_, rfl⟩
                have d : ∀ W, (binOp .eql 69 (.agg #[.int .i64 yq.br, .int .i64 yq.nu, .int .i64 yq.su, .int .i64 yq.li]) (.agg #[.int .i64 br, .int .i64 nu, .int .i64 su, .int .i64 li])).run Tryz.prog W = .ok (.bool r) W := fun W => by
                  have h9 := eql_ct yq ⟨br, nu, su, li⟩ W
                  rw [hr] at h9
                  exact h9
                have HRR := Lib.hid (show yq = (⟨br, nu, su, li⟩ : Ct) → r = true from fun e => by rw [← hr]; exact decide_eq_true e)
                clear hr hyq
                go_quiet (fail)
                go_wp2_with fail
                go_roundw
                case rel => exact ⟨q + 1, r, by have := HNP.out; omega, rfl, by go_num, HNX.out r ⟨(fun h => by cases h), HRR.out⟩, HXR2.out.drewN _⟩
                case measure => simp only [toM]; omega
end Go.Proofs.YtdbnddmncbjobaaGreatDoor

namespace Go.Proofs.YtdbnddmncbjobaaGreatDoor
open Go Go.RowKit

theorem complete_all (A A' : Option Addr) (c c' : Nat) (l l' : List Int) (br tb which : Int) (w : World) (h : IL w A c l) (hl : l.length ≤ 9223372036854775807) (h' : IL w A' c' l') (hl' : l'.length ≤ 9223372036854775807) (_ : -9223372036854775808 ≤ br ∧ br ≤ 9223372036854775807)
    (htb : -9223372036854775808 ≤ tb ∧ tb ≤ 9223372036854775807) (hmy : -9223372036854775808 ≤ which ∧ which ≤ 9223372036854775807) (hL : EnvW w) :
    Calls Tryz.prog 8 #[.agg #[.slice A l.length c, .slice A' l'.length c', .int .i64 br, .int .i64 tb], .int .i64 which] w fun e w' => e = .returned (.bool true) ∧ Ext w w' :=
  complete_law A A' c c' l l' br tb which w h hl h' hl' htb hmy hL
end Go.Proofs.YtdbnddmncbjobaaGreatDoor
