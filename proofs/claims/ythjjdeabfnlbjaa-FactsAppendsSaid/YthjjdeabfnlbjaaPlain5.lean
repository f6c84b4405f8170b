/- Plain lists, continued: what changed from one sorted list of facts to another one. -/
import Derived.Test.YthjjdeabfnlbjaaPlain4
namespace Go.Proofs.Ythjjdeabfnlbjaa

/-- The facts of a list that are not in another one. -/
def wout (a b : List Fc) : List Fc := a.filter fun f => decide (f ∉ b)

/-- What the loop of Changes keeps: a1, b1 are done, a2, b2 are to come. -/
structure MSt (a b a2 b2 rem add : List Fc) : Prop where
  parts : ∃ a1 b1, a = a1 ++ a2 ∧ b = b1 ++ b2 ∧ rem = wout a1 b ∧ add = wout b1 a ∧ (∀ x ∈ b1, ∀ y ∈ a2, x.en < y.en) ∧ (∀ x ∈ a1, ∀ y ∈ b2, x.en < y.en)
  sa : a.Pairwise fun x y => x.en < y.en
  sb : b.Pairwise fun x y => x.en < y.en
theorem MSt.start {a b : List Fc} (ha : a.Pairwise fun x y => x.en < y.en) (hb : b.Pairwise fun x y => x.en < y.en) : MSt a b a b [] [] :=
  ⟨⟨[], [], rfl, rfl, rfl, rfl, by simp, by simp⟩, ha, hb⟩
theorem MSt.done {a b rem add : List Fc} (h : MSt a b [] [] rem add) : rem = wout a b ∧ add = wout b a := by
  obtain ⟨⟨a1, b1, e1, e2, e3, e4, _, _⟩, _, _⟩ := h
  rw [List.append_nil] at e1 e2
  subst e1; subst e2
  exact ⟨e3, e4⟩
theorem wout_snoc (a b : List Fc) (x : Fc) : wout (a ++ [x]) b = wout a b ++ (if x ∈ b then [] else [x]) := by
  unfold wout
  rw [List.filter_append]
  by_cases h : x ∈ b <;> simp [h]
theorem MSt.left {a b at_ b2 rem add : List Fc} {x : Fc} (h : MSt a b (x :: at_) b2 rem add) (hlt : ∀ y ∈ b2, x.en < y.en) : MSt a b at_ b2 (rem ++ [x]) add := by
  obtain ⟨⟨a1, b1, e1, e2, e3, e4, h5, h6⟩, sa, sb⟩ := h
  have hx : x ∉ b := by
    rw [e2]
    intro hm
    rcases List.mem_append.1 hm with hm | hm
    · have := h5 x hm x (.head _); omega
    · have := hlt x hm; omega
  refine ⟨⟨a1 ++ [x], b1, by rw [e1]; simp, e2, ?_, e4, fun u hu v hv => h5 u hu v (.tail _ hv), fun u hu v hv => ?_⟩, sa, sb⟩
  · rw [wout_snoc, if_neg hx, e3]
  · rcases List.mem_append.1 hu with hu | hu
    · exact h6 u hu v hv
    · simp at hu; subst hu; exact hlt v hv
theorem MSt.right {a b a2 bt rem add : List Fc} {y : Fc} (h : MSt a b a2 (y :: bt) rem add) (hlt : ∀ x ∈ a2, y.en < x.en) : MSt a b a2 bt rem (add ++ [y]) := by
  obtain ⟨⟨a1, b1, e1, e2, e3, e4, h5, h6⟩, sa, sb⟩ := h
  have hy : y ∉ a := by
    rw [e1]
    intro hm
    rcases List.mem_append.1 hm with hm | hm
    · have := h6 y hm y (.head _); omega
    · have := hlt y hm; omega
  refine ⟨⟨a1, b1 ++ [y], e1, by rw [e2]; simp, e3, ?_, fun u hu v hv => ?_, fun u hu v hv => h6 u hu v (.tail _ hv)⟩, sa, sb⟩
  · rw [wout_snoc, if_neg hy, e4]
  · rcases List.mem_append.1 hu with hu | hu
    · exact h5 u hu v hv
    · simp at hu; subst hu; exact hlt v hv
theorem MSt.heads {a b at_ bt rem add : List Fc} {x y : Fc} (h : MSt a b (x :: at_) (y :: bt) rem add) : (∀ u ∈ at_, x.en < u.en) ∧ (∀ v ∈ bt, y.en < v.en) := by
  obtain ⟨⟨a1, b1, e1, e2, e3, e4, h5, h6⟩, sa, sb⟩ := h
  rw [e1, List.pairwise_append, List.pairwise_cons] at sa
  rw [e2, List.pairwise_append, List.pairwise_cons] at sb
  exact ⟨sa.2.1.1, sb.2.1.1⟩
theorem MSt.lt {a b at_ bt rem add : List Fc} {x y : Fc} (h : MSt a b (x :: at_) (y :: bt) rem add) (hlt : x.en < y.en) : MSt a b at_ (y :: bt) (rem ++ [x]) add :=
  h.left fun v hv => by
    rcases List.mem_cons.1 hv with e | e
    · subst e; exact hlt
    · have := h.heads.2 v e; omega
theorem MSt.gt {a b at_ bt rem add : List Fc} {x y : Fc} (h : MSt a b (x :: at_) (y :: bt) rem add) (hlt : y.en < x.en) : MSt a b (x :: at_) bt rem (add ++ [y]) :=
  h.right fun v hv => by
    rcases List.mem_cons.1 hv with e | e
    · subst e; exact hlt
    · have := h.heads.1 v e; omega
theorem MSt.eq {a b at_ bt rem add : List Fc} {x y : Fc} (h : MSt a b (x :: at_) (y :: bt) rem add) (he : x.en = y.en) : MSt a b at_ bt (rem ++ if x = y then [] else [x]) (add ++ if x = y then [] else [y]) := by
  have hh := h.heads
  obtain ⟨⟨a1, b1, e1, e2, e3, e4, h5, h6⟩, sa, sb⟩ := h
  have hx : x ∈ b ↔ x = y := by
    rw [e2]
    constructor
    · intro hm
      rcases List.mem_append.1 hm with hm | hm
      · have := h5 x hm x (.head _); omega
      · rcases List.mem_cons.1 hm with e | e
        · exact e
        · have := hh.2 x e; omega
    · intro e; rw [e]; simp
  have hy : y ∈ a ↔ x = y := by
    rw [e1]
    constructor
    · intro hm
      rcases List.mem_append.1 hm with hm | hm
      · have := h6 y hm y (.head _); omega
      · rcases List.mem_cons.1 hm with e | e
        · exact e.symm
        · have := hh.1 y e; omega
    · intro e; rw [e]; simp
  refine ⟨⟨a1 ++ [x], b1 ++ [y], by rw [e1]; simp, by rw [e2]; simp, ?_, ?_, fun u hu v hv => ?_, fun u hu v hv => ?_⟩, sa, sb⟩
  · rw [wout_snoc, e3]
    by_cases e : x = y
    · rw [if_pos e, if_pos (hx.2 e)]
    · rw [if_neg e, if_neg (fun hm => e (hx.1 hm))]
  · rw [wout_snoc, e4]
    by_cases e : x = y
    · rw [if_pos e, if_pos (hy.2 e)]
    · rw [if_neg e, if_neg (fun hm => e (hy.1 hm))]
  · rcases List.mem_append.1 hu with hu | hu
    · exact h5 u hu v (.tail _ hv)
    · simp at hu; subst hu; have := hh.1 v hv; omega
  · rcases List.mem_append.1 hu with hu | hu
    · exact h6 u hu v (.tail _ hv)
    · simp at hu; subst hu; have := hh.2 v hv; omega
end Go.Proofs.Ythjjdeabfnlbjaa
