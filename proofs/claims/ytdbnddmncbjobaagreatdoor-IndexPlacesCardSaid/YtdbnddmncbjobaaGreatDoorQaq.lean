/- A region that draws its order, where a load may be taken first although an operation at the region's end writes its cell: two conditions on the world, T behind every operation, S behind those outside E. -/
import Derived.OrdersHeld
import Derived.RegionTactic
namespace Go.Proofs.YtdbnddmncbjobaaGreatDoor
open Go
section
variable {P : Program} {ops : Array Oper} {Q : Exit → Act → World → Prop} {md : Region.Mode} {S T : World → Prop} {E : Nat → Bool}

def CondE (S T : World → Prop) (E : Nat → Bool) (j : Nat) (w : World) : Prop := (E j = false → S w) ∧ T w
def wpE (P : Program) (md : Region.Mode) (ops : Array Oper) (Q : Exit → Act → World → Prop) (S T : World → Prop) (E : Nat → Bool) : Nat → Array Bool → Act → World → Prop
  | 0, l, a, w => Region.ready md ops l = [] ∧ Q .normal a w
  | n + 1, l, a, w => (Region.ready md ops l = [] → Q .normal a w) ∧ ∀ i ∈ Region.ready md ops l, wpOp P ops Q i (fun a' w' => CondE S T E i w' ∧ wpE P md ops Q S T E n (l.setIfInBounds i true) a' w') a w

theorem wpE_any : ∀ (n : Nat) (l : Array Bool) (a : Act) (w : World), wpE P md ops Q S T E n l a w → wpAny P md ops Q n l a w
  | 0, _, _, _, h => h
  | n + 1, _, _, _, h => ⟨h.1, fun i hi => wpOp_mono (fun _ _ g => wpE_any n _ _ _ g.2) (h.2 i hi)⟩

/-- No operation but i itself stands before i. -/
def Later (md : Region.Mode) (oj : Oper) (i : Nat) : Prop := ∀ e ∈ oj.after, Region.binds md e = true → e.on ≠ i
theorem wpE_first {U : World → Prop} {i : Nat} {oi : Oper} {v : Value} (hi : ops[i]? = some oi) (hsel : ∀ (j : Nat) (o : Oper) cs b, ops[j]? = some o → o.op ≠ .select cs b)
    (hQ : ∀ c a w, Q (.panic c) (a.put oi.dst v) w → Q (.panic c) a w) (hUC : ∀ w, U w → T w → CondE S T E i w) :
    ∀ (n : Nat) (l : Array Bool) (a : Act) (w : World),
      (∀ j oj, ops[j]? = some oj → j ≠ i → l.getD j true = false → Later md oj i → oi.apart ops oj = true ∧ ∀ w', CondE S T E j w' → U w') →
      i ∈ Region.ready md ops l → YieldsIf P ops U oi v a → U w → T w →
      wpE P md ops Q S T E n (l.setIfInBounds i true) (a.put oi.dst v) w → wpE P md ops Q S T E (n + 1) l a w := by
  intro n
  induction n with
  | zero =>
    intro l a w _ hr hy hU hC H
    refine ⟨fun h => absurd hr (by rw [h]; simp), fun j hj => ?_⟩
    by_cases e : j = i
    · subst e; exact hy.wpOp hi hU ⟨hUC _ hU hC, H⟩
    · exact absurd (ready_mono hj e) (by rw [H.1]; simp)
  | succ n ih =>
    intro l a w hf hr hy hU hC H
    refine ⟨fun h => absurd hr (by rw [h]; simp), fun j hj => ?_⟩
    by_cases e : j = i
    · subst e; exact hy.wpOp hi hU ⟨hUC _ hU hC, H⟩
    have hl := (mem_ready.1 hr).1
    obtain ⟨hju, oj, hoj, hall⟩ := mem_ready.1 hj
    have hlate : Later md oj i := fun d hd hb hon => by
      have h1 := hall d hd hb
      rw [hon] at h1
      by_cases hs : i < l.size
      · simp [hs] at hl h1; simp [hl] at h1
      · simp [Array.getElem?_eq_none (Nat.le_of_not_lt hs)] at h1
    obtain ⟨hap, hnext⟩ := hf j oj hoj e hju hlate
    have hmoved := wpOp_putIf hoj hap (fun cs b => hsel i oi cs b hi) (fun cs b => hsel j oj cs b hoj) hQ hy (H.2 j (ready_mono hj e))
    refine wpOp_mono (fun a' w' g => ?_) hmoved
    obtain ⟨g1, g2, g3⟩ := g
    refine ⟨g2, ih _ a' w' (fun k ok hk hki hku hkl => ?_) (ready_mono hr (Ne.symm e)) g1 (hnext w' g2) g2.2 (by rw [Array.setIfInBounds_comm _ _ e]; exact g3)⟩
    refine hf k ok hk hki ?_ hkl
    by_cases ejk : j = k
    · subst ejk; exact hju
    · rwa [getD_set_ne true ejk] at hku

/-- Every operation of E that has not come up yet waits for i. -/
def waitsB (md : Region.Mode) (ops : Array Oper) (l : Array Bool) (E : Nat → Bool) (i : Nat) : Bool :=
  (List.range ops.size).all fun j => !E j || l.getD j true || match ops[j]? with | some oj => oj.after.any (fun e => Region.binds md e && e.on == i) | none => true
theorem waitsB_spec {l : Array Bool} {i j : Nat} {oj : Oper} (h : waitsB md ops l E i = true) (hj : ops[j]? = some oj) (hl : l.getD j true = false) (hno : Later md oj i) : E j = false := by
  unfold waitsB at h
  rw [List.all_eq_true] at h
  have h1 := h j (List.mem_range.2 (Array.getElem?_eq_some_iff.1 hj).1)
  rw [hj, hl] at h1
  cases hE : E j with
  | false => rfl
  | true =>
    rw [hE] at h1
    simp only [Bool.not_true, Bool.or_false, Bool.false_or] at h1
    obtain ⟨e, he, h2⟩ := Array.any_eq_true'.1 h1
    simp only [Bool.and_eq_true, beq_iff_eq] at h2
    exact absurd h2.2 (hno e he h2.1)
/-- Take i first: what it yields hangs on T alone. -/
theorem wpE_takeT {i : Nat} {oi : Oper} {d : Option Tmp} {v : Value} {n : Nat} {l : Array Bool} {a : Act} {w : World} (hi : ops[i]? = some oi) (hd : oi.dst = d)
    (hs : Region.noSelect ops = true) (hf : Region.free md ops l i = true) (hr : (Region.ready md ops l).contains i = true) (hE : E i = true)
    (hQ : ∀ c a w, Q (.panic c) (a.put d v) w → Q (.panic c) a w) (hw : Region.wanted oi (yielded ops a.tmps) = true) (hy : ∀ w, T w → (execOp a.eval oi).run P w = .ok (.value v) w) (hT : T w)
    (h : wpE P md ops Q S T E n (l.setIfInBounds i true) (a.put d v) w) : wpE P md ops Q S T E (n + 1) l a w := by
  subst hd
  exact wpE_first (U := T) hi (Region.noSelect_spec hs) hQ (fun _ _ hT => ⟨fun h => absurd (hE.symm.trans h) (by simp), hT⟩) n l a w (fun j oj hj hne hun hno => ⟨Region.free_spec hi hf j oj hj hne hun hno, fun w' hC => hC.2⟩) (by simpa using hr) (.inl ⟨hw, hy⟩) hT hT h
/-- Take i first: what it yields hangs on S. -/
theorem wpE_takeS {i : Nat} {oi : Oper} {d : Option Tmp} {v : Value} {n : Nat} {l : Array Bool} {a : Act} {w : World} (hi : ops[i]? = some oi) (hd : oi.dst = d)
    (hs : Region.noSelect ops = true) (hf : Region.free md ops l i = true) (hr : (Region.ready md ops l).contains i = true) (hE : waitsB md ops l E i = true)
    (hQ : ∀ c a w, Q (.panic c) (a.put d v) w → Q (.panic c) a w) (hw : Region.wanted oi (yielded ops a.tmps) = true) (hy : ∀ w, S w → (execOp a.eval oi).run P w = .ok (.value v) w) (hS : S w) (hT : T w)
    (h : wpE P md ops Q S T E n (l.setIfInBounds i true) (a.put d v) w) : wpE P md ops Q S T E (n + 1) l a w := by
  subst hd
  exact wpE_first (U := S) hi (Region.noSelect_spec hs) hQ (fun _ hS hT => ⟨fun _ => hS, hT⟩) n l a w (fun j oj hj hne hun hno => ⟨Region.free_spec hi hf j oj hj hne hun hno, fun w' hC => hC.1 (waitsB_spec hE hj hun hno)⟩) (by simpa using hr) (.inl ⟨hw, hy⟩) hS hT h
def AllE (P : Program) (md : Region.Mode) (ops : Array Oper) (Q : Exit → Act → World → Prop) (S T : World → Prop) (E : Nat → Bool) (n : Nat) (l : Array Bool) (a : Act) (w : World) (rs : List Nat) : Prop :=
  ∀ i ∈ rs, wpOp P ops Q i (fun a' w' => CondE S T E i w' ∧ wpE P md ops Q S T E n (l.setIfInBounds i true) a' w') a w
theorem wpE_all {rs : List Nat} {n : Nat} {l : Array Bool} {a : Act} {w : World} (hr : Region.ready md ops l = rs) (hne : rs ≠ []) (h : AllE P md ops Q S T E n l a w rs) : wpE P md ops Q S T E (n + 1) l a w :=
  ⟨fun h0 => absurd (hr ▸ h0) hne, hr ▸ h⟩
theorem AllE.nil {n : Nat} {l : Array Bool} {a : Act} {w : World} : AllE P md ops Q S T E n l a w [] := fun i hi => by cases hi
/-- What follows the operation i, shut: 'out' opens it. -/
structure NextE (P : Program) (md : Region.Mode) (ops : Array Oper) (Q : Exit → Act → World → Prop) (S T : World → Prop) (E : Nat → Bool) (n : Nat) (l : Array Bool) (i : Nat) (K : Act → World → Prop) : Prop where
  out : ∀ a w, CondE S T E i w → (CondE S T E i w → wpE P md ops Q S T E n (l.setIfInBounds i true) a w) → K a w
theorem AllE.cons {n : Nat} {l : Array Bool} {a : Act} {w : World} {i : Nat} {o : Oper} {rs : List Nat} (ho : ops[i]? = some o)
    (h : ∀ K : Act → World → Prop, NextE P md ops Q S T E n l i K → if Region.wanted o (yielded ops a.tmps) = true then Oper.wp P o a w K Q else K (a.put o.dst undef) w)
    (hs : AllE P md ops Q S T E n l a w rs) : AllE P md ops Q S T E n l a w (i :: rs) := fun j hj => by
  rcases List.mem_cons.1 hj with e | e
  · subst e
    exact wpOp_step ho fun K hK => h K ⟨fun a w hC hN => hK a w ⟨hC, hN hC⟩⟩
  · exact hs j e
theorem wpE_done {l : Array Bool} {a : Act} {w : World} (hr : Region.ready md ops l = []) (h : Q .normal a w) : ∀ n, wpE P md ops Q S T E n l a w
  | 0 => ⟨hr, h⟩
  | _ + 1 => ⟨fun _ => h, by rw [hr]; simp⟩
theorem wp_region_E {id : Nat} {a : Act} {w : World} (S T : World → Prop) (E : Nat → Bool) (hm : P.follows .mixedOrders = true) (h : wpE P .any ops Q S T E ops.size (Array.replicate ops.size false) a w.drew) : (Code.region id ops true).wp P Q a w :=
  wp_region_any hm (wpE_any _ _ _ _ h)
end
end Go.Proofs.YtdbnddmncbjobaaGreatDoor
