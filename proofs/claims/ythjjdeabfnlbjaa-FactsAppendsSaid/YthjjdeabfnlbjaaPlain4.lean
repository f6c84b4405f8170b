/- Plain lists, continued: the facts known after an operation: one list alone is sorted by its entries and has just these facts. -/
import Derived.Test.YthjjdeabfnlbjaaPlain3
namespace Go.Proofs.Ythjjdeabfnlbjaa

/-- Association lists. -/
def aget : List (Int × Vr) → Int → Option Vr
  | [], _ => none
  | p :: r, k => if k = p.1 then some p.2 else aget r k
def aput : List (Int × Vr) → Int → Vr → List (Int × Vr)
  | [], k, v => [(k, v)]
  | p :: r, k, v => if k = p.1 then (k, v) :: r else p :: aput r k v
theorem aget_put (es : List (Int × Vr)) (k : Int) (v : Vr) (k' : Int) : aget (aput es k v) k' = if k' = k then some v else aget es k' := by
  induction es with
  | nil => simp [aput, aget]
  | cons p r ih =>
    simp only [aput]
    by_cases h : k = p.1
    · subst h; simp only [if_true, aget]; split <;> rfl
    · simp only [if_neg h, aget, ih]
      by_cases h1 : k' = p.1
      · simp only [if_pos h1]; rw [if_neg (fun e => h (e.symm.trans h1))]
      · simp only [if_neg h1]
theorem akeys_put (es : List (Int × Vr)) (k : Int) (v : Vr) (x : Int) : x ∈ (aput es k v).map (·.1) ↔ x = k ∨ x ∈ es.map (·.1) := by
  induction es with
  | nil => simp [aput]
  | cons p r ih =>
    simp only [aput]
    by_cases h : k = p.1
    · subst h; simp
    · simp only [if_neg h, List.map_cons, List.mem_cons, ih]
      constructor <;> (rintro (h | h | h) <;> simp [h])
theorem anodup_put (es : List (Int × Vr)) (k : Int) (v : Vr) (h : (es.map (·.1)).Nodup) : ((aput es k v).map (·.1)).Nodup := by
  induction es with
  | nil => simp [aput]
  | cons p r ih =>
    simp only [aput]
    rw [List.map_cons, List.nodup_cons] at h
    by_cases hk : k = p.1
    · subst hk; simpa using h
    · rw [if_neg hk, List.map_cons, List.nodup_cons]
      exact ⟨fun hm => by rcases (akeys_put r k v p.1).1 hm with e | e; exact hk e.symm; exact h.1 e, ih h.2⟩
theorem aget_mem {es : List (Int × Vr)} (h : (es.map (·.1)).Nodup) (k : Int) (v : Vr) : aget es k = some v ↔ (k, v) ∈ es := by
  induction es with
  | nil => simp [aget]
  | cons p r ih =>
    rw [List.map_cons, List.nodup_cons] at h
    simp only [aget, List.mem_cons]
    by_cases hk : k = p.1
    · subst hk
      rw [if_pos rfl]
      constructor
      · intro e; left; cases e; rfl
      · rintro (e | e)
        · rw [← e]
        · exact absurd (List.mem_map.2 ⟨_, e, rfl⟩) h.1
    · rw [if_neg hk, ih h.2]
      constructor
      · intro e; exact .inr e
      · rintro (e | e)
        · exact absurd (congrArg Prod.fst e) hk
        · exact e

/-- The versions up to an operation. -/
def upto (l : List Vr) (op : Int) : List Vr := l.filter fun v => decide (v.op ≤ op)

/-- The facts known after an operation: sorted by their entries, no entry twice, and just those whose last version up to the operation is not struck. -/
structure IsAt (l : List Vr) (op : Int) (m : List Fc) : Prop where
  sorted : m.Pairwise fun a b => a.en < b.en
  mem : ∀ f, f ∈ m ↔ ∃ v, lastOf (upto l op) f.en = some v ∧ v.st = false ∧ v.fc = f

theorem sorted_ext : ∀ (a b : List Fc), a.Pairwise (fun x y => x.en < y.en) → b.Pairwise (fun x y => x.en < y.en) → (∀ f, f ∈ a ↔ f ∈ b) → a = b
  | [], [], _, _, _ => rfl
  | [], y :: b, _, _, h => absurd ((h y).2 (.head _)) (by simp)
  | x :: a, [], _, _, h => absurd ((h x).1 (.head _)) (by simp)
  | x :: a, y :: b, ha, hb, h => by
    rw [List.pairwise_cons] at ha hb
    have hxy : x = y := by
      rcases List.mem_cons.1 ((h x).1 (.head _)) with e | e
      · exact e
      · rcases List.mem_cons.1 ((h y).2 (.head _)) with e' | e'
        · exact e'.symm
        · have h1 := hb.1 x e; have h2 := ha.1 y e'; omega
    subst hxy
    have ht : ∀ f, f ∈ a ↔ f ∈ b := fun f => by
      constructor
      · intro hf
        rcases List.mem_cons.1 ((h f).1 (.tail _ hf)) with e | e
        · subst e; have := ha.1 f hf; omega
        · exact e
      · intro hf
        rcases List.mem_cons.1 ((h f).2 (.tail _ hf)) with e | e
        · subst e; have := hb.1 f hf; omega
        · exact e
    rw [sorted_ext a b ha.2 hb.2 ht]
theorem IsAt.unique {l : List Vr} {op : Int} {a b : List Fc} (ha : IsAt l op a) (hb : IsAt l op b) : a = b :=
  sorted_ext a b ha.sorted hb.sorted fun f => (ha.mem f).trans (hb.mem f).symm

/-- What the map holds after the first versions: the last one of each entry. -/
structure IsMap (l : List Vr) (vs : List (Int × Vr)) : Prop where
  keys : (vs.map (·.1)).Nodup
  get : ∀ en, aget vs en = lastOf l en
theorem IsMap.nil : IsMap [] [] := ⟨by simp, fun _ => rfl⟩
theorem IsMap.snoc {l : List Vr} {vs : List (Int × Vr)} (h : IsMap l vs) (v : Vr) : IsMap (l ++ [v]) (aput vs v.fc.en v) :=
  ⟨anodup_put _ _ _ h.keys, fun en => by
    rw [aget_put, lastOf_snoc, h.get]
    by_cases e : en = v.fc.en
    · rw [if_pos e, if_pos e.symm]
    · rw [if_neg e, if_neg (fun e' => e e'.symm)]⟩
theorem upto_take_succ {l : List Vr} {k : Nat} (h : k < l.length) (op : Int) : upto (l.take (k + 1)) op = if (vat l k).op ≤ op then upto (l.take k) op ++ [vat l k] else upto (l.take k) op := by
  rw [take_vat h]
  unfold upto
  rw [List.filter_append]
  by_cases hh : (vat l k).op ≤ op <;> simp [hh]

/-- The facts of the entries with the numbers 'is' that are not struck. -/
def pickF (vs : List (Int × Vr)) (is : List Nat) : List Fc := is.filterMap fun i => (vs[i]?).bind fun p => if p.2.st then none else some p.2.fc
theorem pickF_snoc (vs : List (Int × Vr)) (is : List Nat) (i : Nat) (p : Int × Vr) (h : vs[i]? = some p) : pickF vs (is ++ [i]) = pickF vs is ++ (if p.2.st then [] else [p.2.fc]) := by
  unfold pickF
  rw [List.filterMap_append]
  congr 1
  cases hp : p.2.st <;> simp [h, hp]

theorem nodup_len6 : ∀ (n : Nat) (ks : List Int), ks.Nodup → (∀ x ∈ ks, 0 ≤ x ∧ x < n) → ks.length ≤ n
  | 0, ks, _, h => by
    cases ks with
    | nil => simp
    | cons x r => have := h x (.head _); omega
  | n + 1, ks, hn, h => by
    have h1 : (ks.erase (n : Int)).length ≤ n := nodup_len6 n _ (hn.erase _) fun x hx => by
      have hm := (hn.mem_erase_iff.1 hx)
      have := h x hm.2
      have hne := hm.1
      omega
    have h2 : ks.length ≤ (ks.erase (n : Int)).length + 1 := by
      rw [List.length_erase]
      split <;> omega
    omega

theorem isAt_of {l : List Vr} {op : Int} {vs : List (Int × Vr)} (h : IsMap (upto l op) vs) {is : List Nat} (hn : is.Nodup) (hall : ∀ i, i < vs.length → i ∈ is) (hlt : ∀ i ∈ is, i < vs.length)
    {m : List Fc} (hp : List.Perm m (pickF vs is)) (hs : m.Pairwise fun a b => a.en ≤ b.en) : IsAt l op m := by
  have hmem : ∀ f, f ∈ m ↔ ∃ v, lastOf (upto l op) f.en = some v ∧ v.st = false ∧ v.fc = f := fun f => by
    rw [hp.mem_iff]
    unfold pickF
    rw [List.mem_filterMap]
    constructor
    · rintro ⟨i, hi, hb⟩
      obtain ⟨p, hp1, hp2⟩ := Option.bind_eq_some_iff.1 hb
      by_cases hst : p.2.st = true
      · simp [hst] at hp2
      · simp [hst] at hp2
        have hg : aget vs p.1 = some p.2 := (aget_mem h.keys _ _).2 (List.mem_of_getElem? hp1)
        rw [h.get] at hg
        have := (lastOf_some hg).2
        exact ⟨p.2, by rw [← hp2, this]; exact hg, by simpa using hst, hp2⟩
    · rintro ⟨v, hv, hst, rfl⟩
      rw [← h.get] at hv
      obtain ⟨i, hi, he⟩ := List.mem_iff_getElem.1 ((aget_mem h.keys _ _).1 hv)
      exact ⟨i, hall i hi, by rw [List.getElem?_eq_getElem hi, he]; simp [hst]⟩
  refine ⟨?_, hmem⟩
  have hnd : (pickF vs is).Pairwise fun a b => a.en ≠ b.en := by
    unfold pickF
    rw [List.pairwise_filterMap]
    refine hn.imp_of_mem fun {i j} hi hj hij a ha b hb => ?_
    obtain ⟨p, hp1, hp2⟩ := Option.bind_eq_some_iff.1 ha
    obtain ⟨q, hq1, hq2⟩ := Option.bind_eq_some_iff.1 hb
    have hpe : p.2.fc.en = p.1 := by
      have hg : aget vs p.1 = some p.2 := (aget_mem h.keys _ _).2 (List.mem_of_getElem? hp1)
      rw [h.get] at hg; exact (lastOf_some hg).2
    have hqe : q.2.fc.en = q.1 := by
      have hg : aget vs q.1 = some q.2 := (aget_mem h.keys _ _).2 (List.mem_of_getElem? hq1)
      rw [h.get] at hg; exact (lastOf_some hg).2
    have ha' : a = p.2.fc := by
      by_cases hst : p.2.st = true
      · simp [hst] at hp2
      · simp [hst] at hp2; exact hp2.symm
    have hb' : b = q.2.fc := by
      by_cases hst : q.2.st = true
      · simp [hst] at hq2
      · simp [hst] at hq2; exact hq2.symm
    rw [ha', hb', hpe, hqe]
    intro e
    have hk : (vs.map (·.1))[i]? = (vs.map (·.1))[j]? := by simp [hp1, hq1, e]
    exact hij ((List.getElem?_inj (by simpa using hlt i hi) h.keys).1 hk)
  have hnd2 : m.Pairwise fun a b => a.en ≠ b.en := (hp.pairwise_iff (fun {a b} h e => h e.symm)).2 hnd
  exact hs.imp₂ (fun a b h1 h2 => by omega) hnd2
end Go.Proofs.Ythjjdeabfnlbjaa
