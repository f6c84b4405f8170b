/- Tables of keys and places in plain Lean. -/
import Derived.Lib.Bytealg
import Derived.Test.YtdbnddmncbjobaaGreatDoorQae
namespace Go.Proofs.YtdbnddmncbjobaaGreatDoor
section
open Go

/-- The order of keys: by their bytes. -/
def sLt (a b : List UInt8) : Bool := Op.bytesLess a b
theorem u8_lt_irrefl (a : UInt8) : ¬ a < a := fun h => Nat.lt_irrefl _ (UInt8.lt_iff_toNat_lt.1 h)
theorem sLt_nil (a : List UInt8) : sLt a [] = false := by cases a <;> rfl
theorem sLt_cons (a b : UInt8) (x y : List UInt8) : sLt (a :: x) (b :: y) = (decide (a < b) || (a == b && sLt x y)) := rfl
theorem sLt_irrefl : ∀ a : List UInt8, sLt a a = false
  | [] => rfl
  | a :: x => by simp [sLt_cons, sLt_irrefl x]
theorem sLt_trans : ∀ {a b c : List UInt8}, sLt a b = true → sLt b c = true → sLt a c = true
  | _, _, [], _, h => by rw [sLt_nil] at h; cases h
  | _, [], _ :: _, h, _ => by rw [sLt_nil] at h; cases h
  | [], _ :: _, _ :: _, _, _ => rfl
  | a :: x, b :: y, c :: z, h1, h2 => by
    simp only [sLt_cons, Bool.or_eq_true, decide_eq_true_eq, Bool.and_eq_true, beq_iff_eq] at h1 h2 ⊢
    rcases h1 with h1 | ⟨rfl, h1⟩
    · rcases h2 with h2 | ⟨rfl, h2⟩
      · exact .inl (UInt8.lt_trans h1 h2)
      · exact .inl h1
    · rcases h2 with h2 | ⟨rfl, h2⟩
      · exact .inl h2
      · exact .inr ⟨rfl, sLt_trans h1 h2⟩
theorem sLt_tri : ∀ {a b : List UInt8}, a ≠ b → sLt a b = true ∨ sLt b a = true
  | [], [], h => absurd rfl h
  | [], _ :: _, _ => .inl rfl
  | _ :: _, [], _ => .inr rfl
  | a :: x, b :: y, h => by
    simp only [sLt_cons, Bool.or_eq_true, decide_eq_true_eq, Bool.and_eq_true, beq_iff_eq]
    by_cases e : a = b
    · subst e
      rcases sLt_tri (a := x) (b := y) (fun e => h (by rw [e])) with h1 | h1
      · exact .inl (.inr ⟨rfl, h1⟩)
      · exact .inr (.inr ⟨rfl, h1⟩)
    · by_cases hlt : a < b
      · exact .inl (.inl hlt)
      · exact .inr (.inl (UInt8.lt_of_le_of_ne (UInt8.not_lt.1 hlt) (Ne.symm e)))
theorem sLt_ne {a b : List UInt8} (h : sLt a b = true) : a ≠ b := fun e => by subst e; rw [sLt_irrefl] at h; cases h
/-- strings.Compare. -/
theorem cmpB_lt : ∀ a b : List UInt8, Lib.compareBytes a b < 0 ↔ sLt a b = true
  | [], [] => by simp [Lib.compareBytes, sLt, Op.bytesLess]
  | [], _ :: _ => by simp [Lib.compareBytes, sLt, Op.bytesLess]
  | _ :: _, [] => by simp [Lib.compareBytes, sLt, Op.bytesLess]
  | a :: x, b :: y => by
    simp only [sLt_cons, Bool.or_eq_true, decide_eq_true_eq, Bool.and_eq_true, beq_iff_eq]
    unfold Lib.compareBytes
    by_cases h : a < b
    · simp [h]
    · by_cases h2 : b < a
      · have hne : a ≠ b := fun e => u8_lt_irrefl a (by rw [← e] at h2; exact h2)
        simp [h, h2, hne]
      · have e : a = b := Decidable.byContradiction fun hne => h2 (UInt8.lt_of_le_of_ne (UInt8.not_lt.1 h) (Ne.symm hne))
        simp only [if_false, e, true_and, false_or, u8_lt_irrefl]
        exact cmpB_lt x y
theorem cmpB_eq : ∀ a b : List UInt8, Lib.compareBytes a b = 0 ↔ a = b
  | [], [] => by simp [Lib.compareBytes]
  | [], _ :: _ => by simp [Lib.compareBytes]
  | _ :: _, [] => by simp [Lib.compareBytes]
  | a :: x, b :: y => by
    unfold Lib.compareBytes
    by_cases h : a < b
    · have hne : a ≠ b := fun e => u8_lt_irrefl a (by rw [← e] at h; exact h)
      simp [h, hne]
    · by_cases h2 : b < a
      · have hne : a ≠ b := fun e => u8_lt_irrefl a (by rw [← e] at h2; exact h2)
        simp [h, h2, hne]
      · have e : a = b := Decidable.byContradiction fun hne => h2 (UInt8.lt_of_le_of_ne (UInt8.not_lt.1 h) (Ne.symm hne))
        simp only [if_false, e, List.cons.injEq, true_and, u8_lt_irrefl]
        exact cmpB_eq x y

deriving instance DecidableEq for Ct
theorem ct_ext {a b : Ct} (h1 : a.br = b.br) (h2 : a.nu = b.nu) (h3 : a.su = b.su) (h4 : a.li = b.li) : a = b := by
  obtain ⟨_, _, _, _⟩ := a; obtain ⟨_, _, _, _⟩ := b; cases h1; cases h2; cases h3; cases h4; rfl
/-- The order of places. -/
def CLt (a b : Ct) : Prop := a.br < b.br ∨ (a.br = b.br ∧ (a.nu < b.nu ∨ (a.nu = b.nu ∧ (a.su < b.su ∨ (a.su = b.su ∧ a.li < b.li)))))
instance (a b : Ct) : Decidable (CLt a b) := by unfold CLt; infer_instance
theorem cLt_irrefl (a : Ct) : ¬ CLt a a := by unfold CLt; omega
theorem cLt_trans {a b c : Ct} (h1 : CLt a b) (h2 : CLt b c) : CLt a c := by unfold CLt at *; omega
theorem cLt_tri {a b : Ct} (h : a ≠ b) : CLt a b ∨ CLt b a := by
  by_cases h1 : CLt a b
  · exact .inl h1
  · refine .inr (Decidable.byContradiction fun h2 => h (ct_ext ?_ ?_ ?_ ?_)) <;> unfold CLt at h1 h2 <;> omega

/-- Lists that a strict order puts into order are one if they have the same elements. -/
theorem ext_sorted {α : Type} {lt : α → α → Prop} (irr : ∀ a, ¬ lt a a) (tr : ∀ {a b c}, lt a b → lt b c → lt a c) : ∀ {l l' : List α}, l.Pairwise lt → l'.Pairwise lt → (∀ x, x ∈ l ↔ x ∈ l') → l = l'
  | [], [], _, _, _ => rfl
  | [], y :: _, _, _, h => absurd ((h y).2 (.head _)) (by simp)
  | x :: _, [], _, _, h => absurd ((h x).1 (.head _)) (by simp)
  | x :: l, y :: l', h1, h2, h => by
    rw [List.pairwise_cons] at h1 h2
    have e : x = y := by
      rcases List.mem_cons.1 ((h x).1 (.head _)) with e | hx
      · exact e
      · rcases List.mem_cons.1 ((h y).2 (.head _)) with e | hy
        · exact e.symm
        · exact absurd (tr (h1.1 y hy) (h2.1 x hx)) (irr x)
    subst e
    rw [ext_sorted irr tr h1.2 h2.2 fun z => ?_]
    constructor
    · intro hz
      rcases List.mem_cons.1 ((h z).1 (.tail _ hz)) with e | hz'
      · subst e; exact absurd (h1.1 z hz) (irr z)
      · exact hz'
    · intro hz
      rcases List.mem_cons.1 ((h z).2 (.tail _ hz)) with e | hz'
      · subst e; exact absurd (h2.1 z hz) (irr z)
      · exact hz'

abbrev Tb := List (List UInt8 × List Ct)
/-- Items are a table. -/
structure Reg (T : Tb) : Prop where
  keys : T.Pairwise fun x y => sLt x.1 y.1 = true
  some : ∀ x ∈ T, x.2 ≠ []
  rise : ∀ x ∈ T, x.2.Pairwise CLt
/-- A key has a place. -/
def Has (T : Tb) (k : List UInt8) (c : Ct) : Prop := ∃ l, (k, l) ∈ T ∧ c ∈ l
theorem keys_one : ∀ {T : Tb}, (T.Pairwise fun x y => sLt x.1 y.1 = true) → ∀ {k : List UInt8} {l l' : List Ct}, (k, l) ∈ T → (k, l') ∈ T → l = l'
  | [], _, _, _, _, h, _ => by cases h
  | x :: T, hp, k, l, l', h, h' => by
    rw [List.pairwise_cons] at hp
    rcases List.mem_cons.1 h with e | h
    · rcases List.mem_cons.1 h' with e' | h'
      · have := e.trans e'.symm; simpa using this
      · have := hp.1 _ h'; rw [← e] at this; rw [sLt_irrefl] at this; cases this
    · rcases List.mem_cons.1 h' with e' | h'
      · have := hp.1 _ h; rw [← e'] at this; rw [sLt_irrefl] at this; cases this
      · exact keys_one hp.2 h h'
theorem Reg.at {T : Tb} (h : Reg T) {k : List UInt8} {l : List Ct} (hl : (k, l) ∈ T) (c : Ct) : Has T k c ↔ c ∈ l :=
  ⟨fun ⟨l', h1, h2⟩ => by rw [keys_one h.keys hl h1]; exact h2, fun hc => ⟨l, hl, hc⟩⟩
theorem reg_ext {S T : Tb} (hS : Reg S) (hT : Reg T) (h : ∀ k c, Has S k c ↔ Has T k c) : S = T := by
  have key : ∀ {A B : Tb}, Reg A → Reg B → (∀ k c, Has A k c ↔ Has B k c) → ∀ x ∈ A, x ∈ B := by
    intro A B hA hB h ⟨k, l⟩ hx
    obtain ⟨c, hc⟩ := List.exists_mem_of_ne_nil _ (hA.some _ hx)
    obtain ⟨l', hl', _⟩ := (h k c).1 ⟨l, hx, hc⟩
    have e : l = l' := ext_sorted cLt_irrefl (fun h1 h2 => cLt_trans h1 h2) (hA.rise _ hx) (hB.rise _ hl') fun c => by
      rw [← hA.at hx c, h k c, hB.at hl' c]
    rw [e]; exact hl'
  exact ext_sorted (lt := fun x y : List UInt8 × List Ct => sLt x.1 y.1 = true) (fun a => by simp [sLt_irrefl]) (fun h1 h2 => sLt_trans h1 h2) hS.keys hT.keys fun x => ⟨key hS hT h x, key hT hS (fun k c => (h k c).symm) x⟩
theorem reg_nil : Reg [] := ⟨.nil, (fun _ h => nomatch h), (fun _ h => nomatch h)⟩
theorem has_nil (k : List UInt8) (c : Ct) : ¬ Has [] k c := fun ⟨_, h, _⟩ => by cases h

/-- Places with a further one. -/
def placeP : List Ct → Ct → List Ct
  | [], c => [c]
  | x :: r, c => if CLt x c then x :: placeP r c else if x = c then x :: r else c :: x :: r
/-- A table in which a key has a further place. -/
def putP : Tb → List UInt8 → Ct → Tb
  | [], k, c => [(k, [c])]
  | p :: r, k, c => if sLt p.1 k = true then p :: putP r k c else if p.1 = k then (k, placeP p.2 c) :: r else (k, [c]) :: p :: r
theorem mem_place : ∀ (l : List Ct) (c x : Ct), x ∈ placeP l c ↔ x ∈ l ∨ x = c
  | [], c, x => by simp [placeP]
  | y :: r, c, x => by
    unfold placeP
    split
    · simp only [List.mem_cons, mem_place r c x, or_assoc]
    · split
      · next e => subst e; simp only [List.mem_cons]; exact ⟨.inl, fun h => h.elim id .inl⟩
      · simp only [List.mem_cons]; exact or_comm
theorem place_rise : ∀ (l : List Ct) (c : Ct), l.Pairwise CLt → (placeP l c).Pairwise CLt
  | [], c, _ => by simp [placeP]
  | y :: r, c, h => by
    unfold placeP
    rw [List.pairwise_cons] at h
    split
    · next h1 =>
      rw [List.pairwise_cons]
      refine ⟨fun z hz => ?_, place_rise r c h.2⟩
      rcases (mem_place r c z).1 hz with hz | rfl
      · exact h.1 z hz
      · exact h1
    · next h1 =>
      split
      · exact List.pairwise_cons.2 h
      · next h2 =>
        have h3 : CLt c y := (cLt_tri h2).resolve_left h1
        refine List.pairwise_cons.2 ⟨fun z hz => ?_, List.pairwise_cons.2 h⟩
        rcases List.mem_cons.1 hz with rfl | hz
        · exact h3
        · exact cLt_trans h3 (h.1 z hz)
theorem place_ne (l : List Ct) (c : Ct) : placeP l c ≠ [] := fun e => by have := (mem_place l c c).2 (.inr rfl); rw [e] at this; cases this
theorem put_keys : ∀ (T : Tb) (k : List UInt8) (c : Ct) (p : List UInt8 × List Ct), p ∈ putP T k c → p.1 = k ∨ p ∈ T
  | [], k, c, p, h => by simp [putP] at h; exact .inl (by rw [h])
  | q :: r, k, c, p, h => by
    unfold putP at h
    split at h
    · rcases List.mem_cons.1 h with rfl | h
      · exact .inr (.head _)
      · exact (put_keys r k c p h).imp id (.tail _)
    · split at h
      · rcases List.mem_cons.1 h with rfl | h
        · exact .inl rfl
        · exact .inr (.tail _ h)
      · rcases List.mem_cons.1 h with rfl | h
        · exact .inl rfl
        · exact .inr h
theorem reg_put : ∀ (T : Tb) (k : List UInt8) (c : Ct), Reg T → Reg (putP T k c)
  | [], k, c, _ => ⟨by simp [putP], fun x hx => by simp [putP] at hx; subst hx; simp, fun x hx => by simp [putP] at hx; subst hx; simp⟩
  | q :: r, k, c, h => by
    obtain ⟨h1, h2, h3⟩ := h
    rw [List.pairwise_cons] at h1
    have hr : Reg r := ⟨h1.2, fun x hx => h2 x (.tail _ hx), fun x hx => h3 x (.tail _ hx)⟩
    unfold putP
    split
    · next hlt =>
      have ih := reg_put r k c hr
      refine ⟨List.pairwise_cons.2 ⟨fun p hp => ?_, ih.keys⟩, fun x hx => ?_, fun x hx => ?_⟩
      · rcases put_keys r k c p hp with e | hp
        · rw [e]; exact hlt
        · exact h1.1 p hp
      · rcases List.mem_cons.1 hx with rfl | hx
        · exact h2 _ (.head _)
        · exact ih.some x hx
      · rcases List.mem_cons.1 hx with rfl | hx
        · exact h3 _ (.head _)
        · exact ih.rise x hx
    · next hlt =>
      split
      · next e =>
        subst e
        refine ⟨List.pairwise_cons.2 ⟨h1.1, h1.2⟩, fun x hx => ?_, fun x hx => ?_⟩
        · rcases List.mem_cons.1 hx with rfl | hx
          · exact place_ne _ _
          · exact hr.some x hx
        · rcases List.mem_cons.1 hx with rfl | hx
          · exact place_rise _ _ (h3 _ (.head _))
          · exact hr.rise x hx
      · next hne =>
        have hk : sLt k q.1 = true := (sLt_tri hne).resolve_left (fun h => hlt h)
        refine ⟨List.pairwise_cons.2 ⟨fun p hp => ?_, List.pairwise_cons.2 h1⟩, fun x hx => ?_, fun x hx => ?_⟩
        · rcases List.mem_cons.1 hp with rfl | hp
          · exact hk
          · exact sLt_trans hk (h1.1 p hp)
        · rcases List.mem_cons.1 hx with rfl | hx
          · simp
          · exact h2 x hx
        · rcases List.mem_cons.1 hx with rfl | hx
          · simp
          · exact h3 x hx
theorem has_cons (p : List UInt8 × List Ct) (T : Tb) (k : List UInt8) (c : Ct) : Has (p :: T) k c ↔ (p.1 = k ∧ c ∈ p.2) ∨ Has T k c := by
  constructor
  · rintro ⟨l, hl, hc⟩
    rcases List.mem_cons.1 hl with rfl | hl
    · exact .inl ⟨rfl, hc⟩
    · exact .inr ⟨l, hl, hc⟩
  · rintro (⟨rfl, hc⟩ | ⟨l, hl, hc⟩)
    · exact ⟨p.2, .head _, hc⟩
    · exact ⟨l, .tail _ hl, hc⟩
theorem has_put : ∀ (T : Tb) (k : List UInt8) (c : Ct) (k' : List UInt8) (c' : Ct), Has (putP T k c) k' c' ↔ Has T k' c' ∨ (k' = k ∧ c' = c)
  | [], k, c, k', c' => by
    simp only [putP, has_cons, List.mem_singleton, has_nil, or_false, false_or]
    exact ⟨fun ⟨a, b⟩ => ⟨a.symm, b⟩, fun ⟨a, b⟩ => ⟨a.symm, b⟩⟩
  | q :: r, k, c, k', c' => by
    unfold putP
    split
    · rw [has_cons, has_cons, has_put r k c k' c', or_assoc]
    · split
      · next e =>
        subst e
        simp only [has_cons, mem_place]
        constructor
        · rintro (⟨rfl, h | h⟩ | h)
          · exact .inl (.inl ⟨rfl, h⟩)
          · exact .inr ⟨rfl, h⟩
          · exact .inl (.inr h)
        · rintro ((⟨e, h⟩ | h) | ⟨rfl, rfl⟩)
          · exact .inl ⟨e, .inl h⟩
          · exact .inr h
          · exact .inl ⟨rfl, .inr rfl⟩
      · simp only [has_cons, List.mem_singleton]
        constructor
        · rintro (⟨rfl, h⟩ | h)
          · exact .inr ⟨rfl, h⟩
          · exact .inl h
        · rintro (h | ⟨rfl, rfl⟩)
          · exact .inr h
          · exact .inl ⟨rfl, rfl⟩
/-- The table of keys and places, in whatever order they come. -/
def tabP (hs : List (List UInt8 × Ct)) : Tb := hs.foldl (fun T h => putP T h.1 h.2) []
theorem reg_fold : ∀ (hs : List (List UInt8 × Ct)) (T : Tb), Reg T → Reg (hs.foldl (fun T h => putP T h.1 h.2) T)
  | [], _, h => h
  | _ :: r, _, h => reg_fold r _ (reg_put _ _ _ h)
theorem has_fold : ∀ (hs : List (List UInt8 × Ct)) (T : Tb) (k : List UInt8) (c : Ct), Has (hs.foldl (fun T h => putP T h.1 h.2) T) k c ↔ Has T k c ∨ (k, c) ∈ hs
  | [], T, k, c => by simp
  | _ :: r, T, k, c => by
    rw [List.foldl_cons, has_fold r, has_put, or_assoc, List.mem_cons]
    rw [← Prod.ext_iff (x := (k, c))]
theorem reg_tab (hs : List (List UInt8 × Ct)) : Reg (tabP hs) := reg_fold hs [] reg_nil
theorem has_tab (hs : List (List UInt8 × Ct)) (k : List UInt8) (c : Ct) : Has (tabP hs) k c ↔ (k, c) ∈ hs := by
  unfold tabP; rw [has_fold]; simp [has_nil]
theorem tab_eq {T : Tb} {hs : List (List UInt8 × Ct)} (hT : Reg T) (h : ∀ k c, Has T k c ↔ (k, c) ∈ hs) : T = tabP hs :=
  reg_ext hT (reg_tab hs) fun k c => (h k c).trans (has_tab hs k c).symm

/-- slices.Compact. -/
def dedP : List Ct → List Ct
  | [] => []
  | x :: r => match dedP r with
    | [] => [x]
    | y :: s => if x = y then y :: s else x :: y :: s
theorem ded_mem : ∀ (l : List Ct) (c : Ct), c ∈ dedP l ↔ c ∈ l
  | [], c => by simp [dedP]
  | x :: r, c => by
    have ih := ded_mem r c
    unfold dedP
    split
    · next e => rw [e] at ih; simp only [List.mem_cons, ← ih]
    · next y s e =>
      rw [e] at ih
      split
      · next hxy => subst hxy; rw [List.mem_cons (a := c) (l := r), ← ih]; simp
      · rw [List.mem_cons, List.mem_cons (a := c) (l := r), ← ih]
theorem ded_head : ∀ (l : List Ct) (y : Ct) (s : List Ct), dedP l = y :: s → y ∈ l
  | l, y, s, e => (ded_mem l y).1 (by rw [e]; exact .head _)
theorem ded_rise : ∀ (l : List Ct), (l.Pairwise fun a b => ¬ CLt b a) → (dedP l).Pairwise CLt
  | [], _ => .nil
  | x :: r, h => by
    rw [List.pairwise_cons] at h
    have ih := ded_rise r h.2
    unfold dedP
    split
    · simp
    · next y s e =>
      rw [e] at ih
      split
      · exact ih
      · next hne =>
        have hxy : CLt x y := (cLt_tri hne).resolve_right (h.1 y (ded_head r y s e))
        refine List.pairwise_cons.2 ⟨fun z hz => ?_, ih⟩
        rcases List.mem_cons.1 hz with rfl | hz
        · exact hxy
        · exact cLt_trans hxy ((List.pairwise_cons.1 ih).1 z hz)
theorem ded_ne {l : List Ct} (h : l ≠ []) : dedP l ≠ [] := by
  obtain ⟨c, hc⟩ := List.exists_mem_of_ne_nil _ h
  intro e
  have := (ded_mem l c).2 hc
  rw [e] at this; cases this
end
section

/-- The keys and places of a table, in its order. -/
def prs (T : Tb) : List (List UInt8 × Ct) := T.flatMap fun x => x.2.map fun c => (x.1, c)
theorem mem_prs (T : Tb) (k : List UInt8) (c : Ct) : (k, c) ∈ prs T ↔ Has T k c := by
  unfold prs Has
  simp only [List.mem_flatMap, List.mem_map, Prod.mk.injEq, Prod.exists]
  constructor
  · rintro ⟨k', l, h, c', hc, rfl, rfl⟩; exact ⟨l, h, hc⟩
  · rintro ⟨l, h, hc⟩; exact ⟨k, l, h, c, hc, rfl, rfl⟩
theorem prs_append (S T : Tb) : prs (S ++ T) = prs S ++ prs T := List.flatMap_append
theorem prs_cons (x : List UInt8 × List Ct) (T : Tb) : prs (x :: T) = (x.2.map fun c => (x.1, c)) ++ prs T := List.flatMap_cons
/-- Two tables merged. -/
def mrgP (S T : Tb) : Tb := tabP (prs S ++ prs T)
/-- The places of a key. -/
def findP (T : Tb) (k : List UInt8) : Option (List Ct) := (T.find? fun x => x.1 == k).map (·.2)
/-- The places of a key, or none. -/
def plc (T : Tb) (k : List UInt8) : List Ct := (findP T k).getD []
theorem nodup_sub_len {α : Type} [DecidableEq α] : ∀ {l l' : List α}, l.Nodup → (∀ x ∈ l, x ∈ l') → l.length ≤ l'.length
  | [], _, _, _ => Nat.zero_le _
  | x :: r, l', hn, h => by
    rw [List.nodup_cons] at hn
    have hx := h x (.head _)
    have ih := nodup_sub_len (l := r) (l' := l'.erase x) hn.2 fun y hy => (List.mem_erase_of_ne (fun e => hn.1 (by rw [← e]; exact hy))).2 (h y (.tail _ hy))
    rw [List.length_erase_of_mem hx] at ih
    have := List.length_pos_of_mem hx
    simp only [List.length_cons]
    omega
/-- How large tables grow. -/
theorem put_len : ∀ (T : Tb) (k : List UInt8) (c : Ct), (prs (putP T k c)).length ≤ (prs T).length + 1
  | [], k, c => by simp [putP, prs]
  | q :: r, k, c => by
    have ih := put_len r k c
    unfold putP
    split
    · simp only [prs_cons, List.length_append, List.length_map] at ih ⊢; omega
    · split
      · have h9 : ∀ l : List Ct, (placeP l c).length ≤ l.length + 1 := by
          intro l
          induction l with
          | nil => simp [placeP]
          | cons y l ih =>
            unfold placeP
            split
            · simp only [List.length_cons]; omega
            · split <;> simp only [List.length_cons] <;> omega
        have := h9 q.2
        simp only [prs_cons, List.length_append, List.length_map]; omega
      · simp only [prs_cons, List.length_append, List.length_map, List.length_cons, List.length_nil]; omega
theorem tab_len (hs : List (List UInt8 × Ct)) : (prs (tabP hs)).length ≤ hs.length := by
  have key : ∀ (hs : List (List UInt8 × Ct)) (T : Tb), (prs (hs.foldl (fun T h => putP T h.1 h.2) T)).length ≤ (prs T).length + hs.length := by
    intro hs
    induction hs with
    | nil => intro T; simp
    | cons h r ih => intro T; rw [List.foldl_cons]; have h1 := ih (putP T h.1 h.2); have h2 := put_len T h.1 h.2; simp only [List.length_cons]; omega
  have := key hs []
  simpa [prs, tabP] using this
theorem prs_le : ∀ {T : Tb}, (∀ x ∈ T, x.2 ≠ []) → T.length ≤ (prs T).length
  | [], _ => Nat.zero_le _
  | x :: T, h => by
    have h1 := prs_le (T := T) fun y hy => h y (.tail _ hy)
    have h2 := List.length_pos_iff.2 (h x (.head _))
    simp only [prs_cons, List.length_append, List.length_map, List.length_cons]
    omega
theorem prs_mem_le : ∀ {T : Tb} {x : List UInt8 × List Ct}, x ∈ T → x.2.length ≤ (prs T).length
  | y :: T, x, h => by
    simp only [prs_cons, List.length_append, List.length_map]
    rcases List.mem_cons.1 h with rfl | h
    · omega
    · have := prs_mem_le (T := T) h; omega
/-- A table is regular: the keys of what keys come with. -/
theorem tab_key {hs : List (List UInt8 × Ct)} {x : List UInt8 × List Ct} (h : x ∈ tabP hs) : ∃ c, (x.1, c) ∈ hs := by
  obtain ⟨c, hc⟩ := List.exists_mem_of_ne_nil _ ((reg_tab hs).some _ h)
  exact ⟨c, (has_tab hs _ _).1 ⟨x.2, h, hc⟩⟩
end
section

/-- A seal. -/
structure Sea where
  ent : Int
  ver : Int
  fr : Int
  un : Int
  gr : Int
deriving DecidableEq, Inhabited
def covS (s : Sea) (e v n : Int) : Bool := decide (s.ent = e ∧ s.ver = v ∧ s.fr ≤ n ∧ n < s.un)
/-- Whether a word is sealed. -/
def seald (l : List Sea) (e v n : Int) : Bool := l.any fun s => covS s e v n
/-- The word of a text with a number. -/
def wordT (t : Tx) (n : Int) : Option Wd := if n < 0 then none else (t.paras ++ t.notes).flatten[n.toNat]?
/-- The text of a version of an entry. -/
def textB (b : Bk) (e v : Int) : Option Tx := (b.secs.find? fun x => x.ent == e).bind fun x => ((x.vers.zip x.texts).find? fun q => q.1 == v).map (·.2)
theorem textB_mem {b : Bk} {e v : Int} {t : Tx} (h : textB b e v = some t) : ∃ x ∈ b.secs, x.ent = e ∧ ∃ k : Nat, x.vers[k]? = some v ∧ x.texts[k]? = some t := by
  unfold textB at h
  obtain ⟨x, h1, h2⟩ := Option.bind_eq_some_iff.1 h
  obtain ⟨q, h3, h4⟩ := Option.map_eq_some_iff.1 h2
  refine ⟨x, List.mem_of_find?_eq_some h1, by simpa using List.find?_some h1, ?_⟩
  obtain ⟨k, hk⟩ := List.getElem?_of_mem (List.mem_of_find?_eq_some h3)
  have h5 := List.find?_some h3
  rw [List.getElem?_zip_eq_some] at hk
  have e1 : q.1 = v := by simpa using h5
  exact ⟨k, by rw [hk.1, e1], by rw [hk.2, h4]⟩
/-- What a word of a line of a page gives. -/
def hitW (br tb : Int) (ls : List Sea) (t : Tx) (p : Pg) (k : Nat) (n : Int) : List (List UInt8 × Ct) :=
  match wordT t n with
  | none => []
  | some w => if w.key ≠ [] ∧ w.tb = tb ∧ seald ls p.ent p.ver n = false then [(w.key, ⟨br, p.num, p.suf, (k : Int) + 1⟩)] else []
/-- m words from n on. -/
def hitN (br tb : Int) (ls : List Sea) (t : Tx) (p : Pg) (k : Nat) (n : Int) (m : Nat) : List (List UInt8 × Ct) := (List.range m).flatMap fun i => hitW br tb ls t p k (n + (i : Nat))
def hitX (br tb : Int) (ls : List Sea) (t : Tx) (p : Pg) (k : Nat) (x : Ln) : List (List UInt8 × Ct) := hitN br tb ls t p k x.fr (x.un - x.fr).toNat
/-- The first m lines of a page. -/
def hitL (br tb : Int) (ls : List Sea) (t : Tx) (p : Pg) (xs : List Ln) (m : Nat) : List (List UInt8 × Ct) := (List.range m).flatMap fun k => match xs[k]? with | none => [] | some x => hitX br tb ls t p k x
def hitP (br tb : Int) (ls : List Sea) (b : Bk) (p : Pg) : List (List UInt8 × Ct) :=
  match textB b p.ent p.ver with
  | none => []
  | some t => hitL br tb ls t p (p.body ++ p.nts) (p.body ++ p.nts).length
/-- What stands in the index of a book. -/
def hits (br tb : Int) (ls : List Sea) (b : Bk) : List (List UInt8 × Ct) := (pagesB b).flatMap (hitP br tb ls b)
theorem hitN_succ (br tb : Int) (ls : List Sea) (t : Tx) (p : Pg) (k : Nat) (n : Int) (m : Nat) : hitN br tb ls t p k n (m + 1) = hitN br tb ls t p k n m ++ hitW br tb ls t p k (n + (m : Nat)) := by
  unfold hitN; rw [List.range_succ, List.flatMap_append]; simp
theorem hitL_succ (br tb : Int) (ls : List Sea) (t : Tx) (p : Pg) {xs : List Ln} {m : Nat} {x : Ln} (h : xs[m]? = some x) : hitL br tb ls t p xs (m + 1) = hitL br tb ls t p xs m ++ hitX br tb ls t p m x := by
  unfold hitL; rw [List.range_succ, List.flatMap_append]; simp [h]
theorem hits_take (br tb : Int) (ls : List Sea) (b : Bk) {ps : List Pg} {i : Nat} {p : Pg} (h : ps[i]? = some p) : (ps.take (i + 1)).flatMap (hitP br tb ls b) = (ps.take i).flatMap (hitP br tb ls b) ++ hitP br tb ls b p := by
  rw [List.take_add_one, h, List.flatMap_append]; simp
/-- A key stands at a place. -/
def Hit (br tb : Int) (ls : List Sea) (b : Bk) (key : List UInt8) (c : Ct) : Prop :=
  ∃ p ∈ pagesB b, ∃ t, textB b p.ent p.ver = some t ∧ ∃ (k : Nat) (x : Ln), (p.body ++ p.nts)[k]? = some x ∧ ∃ n : Int, x.fr ≤ n ∧ n < x.un ∧ ∃ w, wordT t n = some w ∧ w.key = key ∧ key ≠ [] ∧ w.tb = tb ∧ seald ls p.ent p.ver n = false ∧ c = ⟨br, p.num, p.suf, (k : Int) + 1⟩
theorem mem_hitW {br tb : Int} {ls : List Sea} {t : Tx} {p : Pg} {k : Nat} {n : Int} {key : List UInt8} {c : Ct} : (key, c) ∈ hitW br tb ls t p k n ↔ ∃ w, wordT t n = some w ∧ w.key = key ∧ key ≠ [] ∧ w.tb = tb ∧ seald ls p.ent p.ver n = false ∧ c = ⟨br, p.num, p.suf, (k : Int) + 1⟩ := by
  unfold hitW
  cases hw : wordT t n with
  | none => simp
  | some w =>
    simp only [Option.some.injEq]
    split
    · next h =>
      obtain ⟨h1, h2, h3⟩ := h
      simp only [List.mem_singleton, Prod.mk.injEq]
      constructor
      · rintro ⟨rfl, rfl⟩; exact ⟨w, rfl, rfl, h1, h2, h3, rfl⟩
      · rintro ⟨_, rfl, rfl, _, _, _, rfl⟩; exact ⟨rfl, rfl⟩
    · next h =>
      simp only [List.not_mem_nil, false_iff]
      rintro ⟨_, rfl, rfl, h1, h2, h3, _⟩
      exact h ⟨h1, h2, h3⟩
theorem mem_hits {br tb : Int} {ls : List Sea} {b : Bk} {key : List UInt8} {c : Ct} : (key, c) ∈ hits br tb ls b ↔ Hit br tb ls b key c := by
  unfold hits Hit
  rw [List.mem_flatMap]
  refine exists_congr fun p => and_congr_right fun hp => ?_
  unfold hitP
  cases ht : textB b p.ent p.ver with
  | none => simp
  | some t =>
    simp only [Option.some.injEq, exists_eq_left']
    unfold hitL
    rw [List.mem_flatMap]
    constructor
    · rintro ⟨k, hk, h⟩
      obtain ⟨x, hx⟩ : ∃ x, (p.body ++ p.nts)[k]? = some x := ⟨_, List.getElem?_eq_getElem (List.mem_range.1 hk)⟩
      rw [hx] at h
      simp only [hitX, hitN] at h
      obtain ⟨i, hi, h⟩ := List.mem_flatMap.1 h
      have hi' := List.mem_range.1 hi
      exact ⟨k, x, hx, x.fr + (i : Nat), by omega, by omega, mem_hitW.1 h⟩
    · rintro ⟨k, x, hx, n, h1, h2, h⟩
      refine ⟨k, List.mem_range.2 (List.getElem?_eq_some_iff.1 hx).1, ?_⟩
      rw [hx]
      simp only [hitX, hitN]
      refine List.mem_flatMap.2 ⟨(n - x.fr).toNat, List.mem_range.2 (by omega), ?_⟩
      rw [show x.fr + (((n - x.fr).toNat : Nat) : Int) = n by omega]
      exact mem_hitW.2 h
/-- The table of a book. -/
def itemsB (br tb : Int) (ls : List Sea) (b : Bk) : Tb := tabP (hits br tb ls b)
theorem has_items (br tb : Int) (ls : List Sea) (b : Bk) (k : List UInt8) (c : Ct) : Has (itemsB br tb ls b) k c ↔ Hit br tb ls b k c := by
  unfold itemsB; rw [has_tab, mem_hits]
theorem wordT_lt {t : Tx} {n : Int} {w : Wd} (h : wordT t n = some w) : 0 ≤ n ∧ n < ((t.paras ++ t.notes).flatten.length : Nat) ∧ ∃ p ∈ t.paras ++ t.notes, w ∈ p := by
  unfold wordT at h
  split at h
  · cases h
  · next h0 =>
    have h1 := (List.getElem?_eq_some_iff.1 h).1
    have h2 := List.mem_of_getElem? h
    obtain ⟨p, hp, hw⟩ := List.mem_flatten.1 h2
    exact ⟨by omega, by omega, p, hp, hw⟩
end
end Go.Proofs.YtdbnddmncbjobaaGreatDoor