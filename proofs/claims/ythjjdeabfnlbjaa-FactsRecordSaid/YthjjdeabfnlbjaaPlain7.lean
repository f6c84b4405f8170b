/- Plain lists, continued: what two lists of facts have in common; the history of an entry. -/
import Derived.Test.YthjjdeabfnlbjaaEx
namespace Go.Proofs.Ythjjdeabfnlbjaa

def com (a b : List Fc) : List Fc := a.filter fun f => decide (f ∈ b)
theorem wout_wout (a b : List Fc) : wout a (wout a b) = com a b := by
  unfold wout com
  refine List.filter_congr fun f hf => ?_
  by_cases h : f ∈ b
  · simp [h]
  · simp [h, hf]
theorem wout_com (a b : List Fc) : (wout a b).length + (com a b).length = a.length := by
  unfold wout com
  induction a with
  | nil => rfl
  | cons x a ih =>
    by_cases h : x ∈ b
    · simp [h]; simp at ih; omega
    · simp [h]; simp at ih; omega
theorem com_comm {a b : List Fc} (ha : a.Pairwise fun x y => x.en < y.en) (hb : b.Pairwise fun x y => x.en < y.en) : com a b = com b a :=
  sorted_ext _ _ (ha.sublist List.filter_sublist) (hb.sublist List.filter_sublist) fun f => by
    unfold com
    simp only [List.mem_filter, decide_eq_true_eq]
    exact ⟨fun h => ⟨h.2, h.1⟩, fun h => ⟨h.2, h.1⟩⟩
theorem wout_self (a : List Fc) : wout a a = [] := by
  unfold wout
  rw [List.filter_eq_nil_iff]
  intro f hf
  simp [hf]

theorem hist_snoc (l : List Vr) (v : Vr) (en : Int) : ((l ++ [v]).filter fun v => !pEn en v) = (l.filter fun v => !pEn en v) ++ (if v.fc.en = en then [v] else []) := by
  rw [List.filter_append]
  by_cases h : v.fc.en = en
  · simp [pEn, h]
  · simp [pEn, h]
theorem lastOf_hist (l : List Vr) (en : Int) : lastOf (l.filter fun v => !pEn en v) en = lastOf l en := by
  induction l with
  | nil => rfl
  | cons v l ih =>
    by_cases h : v.fc.en = en
    · simp only [List.filter_cons, show (!pEn en v) = true by simp [pEn, h], if_true, lastOf, ih]
    · simp only [List.filter_cons, show (!pEn en v) = false by simp [pEn, h], lastOf]
      rw [if_neg h]
      simp only [Bool.false_eq_true, if_false, ih]
      cases lastOf l en <;> rfl
theorem lastOf_hist_ne (l : List Vr) (en en' : Int) (h : en' ≠ en) : lastOf (l.filter fun v => !pEn en v) en' = none :=
  lastOf_none fun j hj e => by
    have hm := (List.mem_filter.1 (vat_mem hj)).2
    revert hm e
    generalize vat (l.filter fun v => !pEn en v) j = u
    intro e hm
    exact h (e.symm.trans (by simpa [pEn] using hm))
theorem check_pre {l : List Vr} {v : Vr} (h : checkOf (l ++ [v]) = 0) : checkOf l = 0 ∧ wrongOf l v = 0 := by
  have h1 : checkOf l = 0 := by
    have := checkAux_zero h (k := l.length) (by simp)
    rw [checkAux_append l [v] l.length (Nat.le_refl _)] at this
    exact this
  exact ⟨h1, by rw [← checkOf_snoc l v h1]; exact h⟩
theorem wrong_zero {l : List Vr} {v : Vr} (h : wrongOf l v = 0) : ¬ v.op < 0 ∧ ¬ (v.st = false ∧ okF v.fc = false) ∧ inB v.fc.en 0 65535 = true ∧ (0 < l.length → (vat l (l.length - 1)).op ≤ v.op) ∧ ¬ (v.st = true ∧ (match lastOf l v.fc.en with | some u => u.st | none => true) = true) := by
  have ho := wrongOf_ord h
  unfold wrongOf at h
  by_cases h1 : v.op < 0
  · rw [if_pos h1] at h; exact absurd h (by decide)
  rw [if_neg h1] at h
  by_cases h2 : v.st = false ∧ okF v.fc = false
  · rw [if_pos h2] at h; exact absurd h (by decide)
  rw [if_neg h2] at h
  by_cases h3 : inB v.fc.en 0 65535 = false
  · rw [if_pos h3] at h; exact absurd h (by decide)
  rw [if_neg h3] at h
  by_cases h4 : 0 < l.length ∧ v.op < (vat l (l.length - 1)).op
  · rw [if_pos h4] at h; exact absurd h (by decide)
  rw [if_neg h4] at h
  by_cases h5 : v.st = true ∧ (match lastOf l v.fc.en with | some u => u.st | none => true) = true
  · exact absurd (show (3 : Int) = 0 from (if_pos h5).symm.trans h) (by decide)
  exact ⟨h1, h2, by simpa using h3, ho, h5⟩
theorem wrong_of {l : List Vr} {v : Vr} (h1 : ¬ v.op < 0) (h2 : ¬ (v.st = false ∧ okF v.fc = false)) (h3 : inB v.fc.en 0 65535 = true) (h4 : 0 < l.length → (vat l (l.length - 1)).op ≤ v.op) (h5 : ¬ (v.st = true ∧ (match lastOf l v.fc.en with | some u => u.st | none => true) = true)) : wrongOf l v = 0 := by
  rw [wrongOf_end h1 h2 h3 (fun h => by have := h4 h.1; omega)]
  exact if_neg h5
theorem list_snoc_ind {P : List Vr → Prop} (h0 : P []) (h1 : ∀ l v, P l → P (l ++ [v])) (l : List Vr) : P l := by
  have : ∀ n, n ≤ l.length → P (l.take n) := fun n => by
    induction n with
    | zero => intro _; simpa using h0
    | succ n ih => intro hn; rw [take_vat (by omega)]; exact h1 _ _ (ih (by omega))
  have := this l.length (Nat.le_refl _)
  rwa [List.take_length] at this
theorem check_hist (en : Int) (l : List Vr) (h : checkOf l = 0) : checkOf (l.filter fun v => !pEn en v) = 0 := by
  revert h
  refine list_snoc_ind (P := fun l => checkOf l = 0 → checkOf (l.filter fun v => !pEn en v) = 0) (fun _ => rfl) (fun l v ih h => ?_) l
  obtain ⟨h1, h2⟩ := check_pre h
  have h3 := ih h1
  rw [hist_snoc]
  by_cases he : v.fc.en = en
  · rw [if_pos he, checkOf_snoc _ _ h3]
    obtain ⟨a1, a2, a3, a4, a5⟩ := wrong_zero h2
    refine wrong_of a1 a2 a3 (fun h0 => ?_) (by rw [he, lastOf_hist]; rw [he] at a5; exact a5)
    obtain ⟨j, hj, e⟩ := mem_vat (List.mem_filter.1 (vat_mem (l := l.filter fun v => !pEn en v) (k := (l.filter fun v => !pEn en v).length - 1) (by omega))).1
    rw [← e]
    have := check_ops h1 j (l.length - 1) (by omega) (by omega)
    have := a4 (by omega)
    omega
  · rw [if_neg he, List.append_nil]; exact h3
theorem upto_hist (l : List Vr) (en op : Int) : upto (l.filter fun v => !pEn en v) op = (upto l op).filter fun v => !pEn en v := by
  unfold upto
  rw [List.filter_filter, List.filter_filter]
  exact List.filter_congr fun v _ => Bool.and_comm _ _
theorem isAt_hist {l : List Vr} {en op : Int} {m : List Fc} (h : IsAt l op m) : IsAt (l.filter fun v => !pEn en v) op (m.filter fun f => decide (f.en = en)) :=
  ⟨h.sorted.sublist List.filter_sublist, fun f => by
    rw [List.mem_filter, h.mem, upto_hist]
    by_cases he : f.en = en
    · rw [he, lastOf_hist]; simp
    · rw [lastOf_hist_ne _ _ _ he]; simp [he]⟩
theorem own_le {m : List Fc} (h : m.Pairwise fun a b => a.en < b.en) (en : Int) : (m.filter fun f => decide (f.en = en)).length ≤ 1 := by
  have h1 : (m.filter fun f => decide (f.en = en)).Pairwise fun a b => a.en < b.en := h.sublist List.filter_sublist
  have h2 : ∀ f ∈ m.filter fun f => decide (f.en = en), f.en = en := fun f hf => by simpa using (List.mem_filter.1 hf).2
  revert h1 h2
  generalize (m.filter fun f => decide (f.en = en)) = x
  intro h1 h2
  match x, h1, h2 with
  | [], _, _ => simp
  | [a], _, _ => simp
  | a :: b :: r, h1, h2 =>
    exfalso
    have := (List.pairwise_cons.1 h1).1 b (by simp)
    have e1 := h2 a (by simp)
    have e2 := h2 b (by simp)
    omega
end Go.Proofs.Ythjjdeabfnlbjaa
