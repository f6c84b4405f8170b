/- Tables of keys and places in plain Lean. -/
import Derived.Test.YtdbnddmncbjobaaGreatDoorMa
import Derived.Lib.Bytealg
import Derived.Test.YtdbnddmncbjobaaGreatDoorMe
import Derived.Test.YtdbnddmncbjobaaGreatDoorMc
import Derived.Test.YtdbnddmncbjobaaGreatDoorMd
import Derived.Test.YtdbnddmncbjobaaGreatDoorMb
import Derived.RangeFuncNested
import Derived.RangeFuncBound
import Derived.RangeFuncCalls
import Derived.RangeFuncLeaves
import Derived.TacticsInMore
namespace Go.Proofs.YtdbnddmncbjobaaGreatDoor
open Go

/-- The order of keys: by their bytes. -/
def sLt (a b : List UInt8) : Bool := Op.bytesLess a b
theorem u8_lt_irrefl (a : UInt8) : ¬ a < a := fun h => Nat.lt_irrefl _ (UInt8.lt_iff_toNat_lt.1 h)
theorem sLt_nil (a : List UInt8) : sLt a [] = false := by cases a <;> rfl
theorem sLt_cons (a b : UInt8) (x y : List UInt8) : sLt (a :: x) (b :: y) = (decide (a < b) || (a == b && sLt x y)) := rfl
theorem sLt_irrefl : ∀ a : List UInt8, sLt a a = false
  | [] => rfl
  | a :: x => by simp [sLt_cons, sLt_irrefl x]
theorem sLt_trans : ∀ {a b c : List UInt8}, sLt a b = true → sLt b c = true → sLt a c = true
  | _, _, [], _, h => by rw [sLt_nil] at h; cases h
  | _, [], _ :: _, h, _ => by rw [sLt_nil] at h; cases h
  | [], _ :: _, _ :: _, _, _ => rfl
  | a :: x, b :: y, c :: z, h1, h2 => by
    simp only [sLt_cons, Bool.or_eq_true, decide_eq_true_eq, Bool.and_eq_true, beq_iff_eq] at h1 h2 ⊢
    rcases h1 with h1 | ⟨rfl, h1⟩
    · rcases h2 with h2 | ⟨rfl, h2⟩
      · exact .inl (UInt8.lt_trans h1 h2)
      · exact .inl h1
    · rcases h2 with h2 | ⟨rfl, h2⟩
      · exact .inl h2
      · exact .inr ⟨rfl, sLt_trans h1 h2⟩
theorem sLt_tri : ∀ {a b : List UInt8}, a ≠ b → sLt a b = true ∨ sLt b a = true
  | [], [], h => absurd rfl h
  | [], _ :: _, _ => .inl rfl
  | _ :: _, [], _ => .inr rfl
  | a :: x, b :: y, h => by
    simp only [sLt_cons, Bool.or_eq_true, decide_eq_true_eq, Bool.and_eq_true, beq_iff_eq]
    by_cases e : a = b
    · subst e
      rcases sLt_tri (a := x) (b := y) (fun e => h (by rw [e])) with h1 | h1
      · exact .inl (.inr ⟨rfl, h1⟩)
      · exact .inr (.inr ⟨rfl, h1⟩)
    · by_cases hlt : a < b
      · exact .inl (.inl hlt)
      · exact .inr (.inl (UInt8.lt_of_le_of_ne (UInt8.not_lt.1 hlt) (Ne.symm e)))
theorem sLt_ne {a b : List UInt8} (h : sLt a b = true) : a ≠ b := fun e => by subst e; rw [sLt_irrefl] at h; cases h
/-- strings.Compare. -/
theorem cmpB_lt : ∀ a b : List UInt8, Lib.compareBytes a b < 0 ↔ sLt a b = true
  | [], [] => by simp [Lib.compareBytes, sLt, Op.bytesLess]
  | [], _ :: _ => by simp [Lib.compareBytes, sLt, Op.bytesLess]
  | _ :: _, [] => by simp [Lib.compareBytes, sLt, Op.bytesLess]
  | a :: x, b :: y => by
    simp only [sLt_cons, Bool.or_eq_true, decide_eq_true_eq, Bool.and_eq_true, beq_iff_eq]
    unfold Lib.compareBytes
    by_cases h : a < b
    · simp [h]
    · by_cases h2 : b < a
      · have hne : a ≠ b := fun e => u8_lt_irrefl a (by rw [← e] at h2; exact h2)
        simp [h, h2, hne]
      · have e : a = b := Decidable.byContradiction fun hne => h2 (UInt8.lt_of_le_of_ne (UInt8.not_lt.1 h) (Ne.symm hne))
        simp only [if_false, e, true_and, false_or, u8_lt_irrefl]
        exact cmpB_lt x y
theorem cmpB_eq : ∀ a b : List UInt8, Lib.compareBytes a b = 0 ↔ a = b
  | [], [] => by simp [Lib.compareBytes]
  | [], _ :: _ => by simp [Lib.compareBytes]
  | _ :: _, [] => by simp [Lib.compareBytes]
  | a :: x, b :: y => by
    unfold Lib.compareBytes
    by_cases h : a < b
    · have hne : a ≠ b := fun e => u8_lt_irrefl a (by rw [← e] at h; exact h)
      simp [h, hne]
    · by_cases h2 : b < a
      · have hne : a ≠ b := fun e => u8_lt_irrefl a (by rw [← e] at h2; exact h2)
        simp [h, h2, hne]
      · have e : a = b := Decidable.byContradiction fun hne => h2 (UInt8.lt_of_le_of_ne (UInt8.not_lt.1 h) (Ne.symm hne))
        simp only [if_false, e, List.cons.injEq, true_and, u8_lt_irrefl]
        exact cmpB_eq x y

deriving instance DecidableEq for Ct
theorem ct_ext {a b : Ct} (h1 : a.br = b.br) (h2 : a.nu = b.nu) (h3 : a.su = b.su) (h4 : a.li = b.li) : a = b := by
  obtain ⟨_, _, _, _⟩ := a; obtain ⟨_, _, _, _⟩ := b; cases h1; cases h2; cases h3; cases h4; rfl
/-- The order of places. -/
def CLt (a b : Ct) : Prop := a.br < b.br ∨ (a.br = b.br ∧ (a.nu < b.nu ∨ (a.nu = b.nu ∧ (a.su < b.su ∨ (a.su = b.su ∧ a.li < b.li)))))
instance (a b : Ct) : Decidable (CLt a b) := by unfold CLt; infer_instance
theorem cLt_irrefl (a : Ct) : ¬ CLt a a := by unfold CLt; omega
theorem cLt_trans {a b c : Ct} (h1 : CLt a b) (h2 : CLt b c) : CLt a c := by unfold CLt at *; omega
theorem cLt_tri {a b : Ct} (h : a ≠ b) : CLt a b ∨ CLt b a := by
  by_cases h1 : CLt a b
  · exact .inl h1
  · refine .inr (Decidable.byContradiction fun h2 => h (ct_ext ?_ ?_ ?_ ?_)) <;> unfold CLt at h1 h2 <;> omega

/-- Lists that a strict order puts into order are one if they have the same elements. -/
theorem ext_sorted {α : Type} {lt : α → α → Prop} (irr : ∀ a, ¬ lt a a) (tr : ∀ {a b c}, lt a b → lt b c → lt a c) : ∀ {l l' : List α}, l.Pairwise lt → l'.Pairwise lt → (∀ x, x ∈ l ↔ x ∈ l') → l = l'
  | [], [], _, _, _ => rfl
  | [], y :: _, _, _, h => absurd ((h y).2 (.head _)) (by simp)
  | x :: _, [], _, _, h => absurd ((h x).1 (.head _)) (by simp)
  | x :: l, y :: l', h1, h2, h => by
    rw [List.pairwise_cons] at h1 h2
    have e : x = y := by
      rcases List.mem_cons.1 ((h x).1 (.head _)) with e | hx
      · exact e
      · rcases List.mem_cons.1 ((h y).2 (.head _)) with e | hy
        · exact e.symm
        · exact absurd (tr (h1.1 y hy) (h2.1 x hx)) (irr x)
    subst e
    rw [ext_sorted irr tr h1.2 h2.2 fun z => ?_]
    constructor
    · intro hz
      rcases List.mem_cons.1 ((h z).1 (.tail _ hz)) with e | hz'
      · subst e; exact absurd (h1.1 z hz) (irr z)
      · exact hz'
    · intro hz
      rcases List.mem_cons.1 ((h z).2 (.tail _ hz)) with e | hz'
      · subst e; exact absurd (h2.1 z hz) (irr z)
      · exact hz'

abbrev Tb := List (List UInt8 × List Ct)
/-- Items are a table. -/
structure Reg (T : Tb) : Prop where
  keys : T.Pairwise fun x y => sLt x.1 y.1 = true
  some : ∀ x ∈ T, x.2 ≠ []
  rise : ∀ x ∈ T, x.2.Pairwise CLt
/-- A key has a place. -/
def Has (T : Tb) (k : List UInt8) (c : Ct) : Prop := ∃ l, (k, l) ∈ T ∧ c ∈ l
theorem keys_one : ∀ {T : Tb}, (T.Pairwise fun x y => sLt x.1 y.1 = true) → ∀ {k : List UInt8} {l l' : List Ct}, (k, l) ∈ T → (k, l') ∈ T → l = l'
  | [], _, _, _, _, h, _ => by cases h
  | x :: T, hp, k, l, l', h, h' => by
    rw [List.pairwise_cons] at hp
    rcases List.mem_cons.1 h with e | h
    · rcases List.mem_cons.1 h' with e' | h'
      · have := e.trans e'.symm; simpa using this
      · have := hp.1 _ h'; rw [← e] at this; rw [sLt_irrefl] at this; cases this
    · rcases List.mem_cons.1 h' with e' | h'
      · have := hp.1 _ h; rw [← e'] at this; rw [sLt_irrefl] at this; cases this
      · exact keys_one hp.2 h h'
theorem Reg.at {T : Tb} (h : Reg T) {k : List UInt8} {l : List Ct} (hl : (k, l) ∈ T) (c : Ct) : Has T k c ↔ c ∈ l :=
  ⟨fun ⟨l', h1, h2⟩ => by rw [keys_one h.keys hl h1]; exact h2, fun hc => ⟨l, hl, hc⟩⟩
theorem reg_ext {S T : Tb} (hS : Reg S) (hT : Reg T) (h : ∀ k c, Has S k c ↔ Has T k c) : S = T := by
  have key : ∀ {A B : Tb}, Reg A → Reg B → (∀ k c, Has A k c ↔ Has B k c) → ∀ x ∈ A, x ∈ B := by
    intro A B hA hB h ⟨k, l⟩ hx
    obtain ⟨c, hc⟩ := List.exists_mem_of_ne_nil _ (hA.some _ hx)
    obtain ⟨l', hl', _⟩ := (h k c).1 ⟨l, hx, hc⟩
    have e : l = l' := ext_sorted cLt_irrefl (fun h1 h2 => cLt_trans h1 h2) (hA.rise _ hx) (hB.rise _ hl') fun c => by
      rw [← hA.at hx c, h k c, hB.at hl' c]
    rw [e]; exact hl'
  exact ext_sorted (lt := fun x y : List UInt8 × List Ct => sLt x.1 y.1 = true) (fun a => by simp [sLt_irrefl]) (fun h1 h2 => sLt_trans h1 h2) hS.keys hT.keys fun x => ⟨key hS hT h x, key hT hS (fun k c => (h k c).symm) x⟩
theorem reg_nil : Reg [] := ⟨.nil, (fun _ h => nomatch h), (fun _ h => nomatch h)⟩
theorem has_nil (k : List UInt8) (c : Ct) : ¬ Has [] k c := fun ⟨_, h, _⟩ => by cases h

/-- Places with a further one. -/
def placeP : List Ct → Ct → List Ct
  | [], c => [c]
  | x :: r, c => if CLt x c then x :: placeP r c else if x = c then x :: r else c :: x :: r
/-- A table in which a key has a further place. -/
def putP : Tb → List UInt8 → Ct → Tb
  | [], k, c => [(k, [c])]
  | p :: r, k, c => if sLt p.1 k = true then p :: putP r k c else if p.1 = k then (k, placeP p.2 c) :: r else (k, [c]) :: p :: r
theorem mem_place : ∀ (l : List Ct) (c x : Ct), x ∈ placeP l c ↔ x ∈ l ∨ x = c
  | [], c, x => by simp [placeP]
  | y :: r, c, x => by
    unfold placeP
    split
    · simp only [List.mem_cons, mem_place r c x, or_assoc]
    · split
      · next e => subst e; simp only [List.mem_cons]; exact ⟨.inl, fun h => h.elim id .inl⟩
      · simp only [List.mem_cons]; exact or_comm
theorem place_rise : ∀ (l : List Ct) (c : Ct), l.Pairwise CLt → (placeP l c).Pairwise CLt
  | [], c, _ => by simp [placeP]
  | y :: r, c, h => by
    unfold placeP
    rw [List.pairwise_cons] at h
    split
    · next h1 =>
      rw [List.pairwise_cons]
      refine ⟨fun z hz => ?_, place_rise r c h.2⟩
      rcases (mem_place r c z).1 hz with hz | rfl
      · exact h.1 z hz
      · exact h1
    · next h1 =>
      split
      · exact List.pairwise_cons.2 h
      · next h2 =>
        have h3 : CLt c y := (cLt_tri h2).resolve_left h1
        refine List.pairwise_cons.2 ⟨fun z hz => ?_, List.pairwise_cons.2 h⟩
        rcases List.mem_cons.1 hz with rfl | hz
        · exact h3
        · exact cLt_trans h3 (h.1 z hz)
theorem place_ne (l : List Ct) (c : Ct) : placeP l c ≠ [] := fun e => by have := (mem_place l c c).2 (.inr rfl); rw [e] at this; cases this
theorem put_keys : ∀ (T : Tb) (k : List UInt8) (c : Ct) (p : List UInt8 × List Ct), p ∈ putP T k c → p.1 = k ∨ p ∈ T
  | [], k, c, p, h => by simp [putP] at h; exact .inl (by rw [h])
  | q :: r, k, c, p, h => by
    unfold putP at h
    split at h
    · rcases List.mem_cons.1 h with rfl | h
      · exact .inr (.head _)
      · exact (put_keys r k c p h).imp id (.tail _)
    · split at h
      · rcases List.mem_cons.1 h with rfl | h
        · exact .inl rfl
        · exact .inr (.tail _ h)
      · rcases List.mem_cons.1 h with rfl | h
        · exact .inl rfl
        · exact .inr h
theorem reg_put : ∀ (T : Tb) (k : List UInt8) (c : Ct), Reg T → Reg (putP T k c)
  | [], k, c, _ => ⟨by simp [putP], fun x hx => by simp [putP] at hx; subst hx; simp, fun x hx => by simp [putP] at hx; subst hx; simp⟩
  | q :: r, k, c, h => by
    obtain ⟨h1, h2, h3⟩ := h
    rw [List.pairwise_cons] at h1
    have hr : Reg r := ⟨h1.2, fun x hx => h2 x (.tail _ hx), fun x hx => h3 x (.tail _ hx)⟩
    unfold putP
    split
    · next hlt =>
      have ih := reg_put r k c hr
      refine ⟨List.pairwise_cons.2 ⟨fun p hp => ?_, ih.keys⟩, fun x hx => ?_, fun x hx => ?_⟩
      · rcases put_keys r k c p hp with e | hp
        · rw [e]; exact hlt
        · exact h1.1 p hp
      · rcases List.mem_cons.1 hx with rfl | hx
        · exact h2 _ (.head _)
        · exact ih.some x hx
      · rcases List.mem_cons.1 hx with rfl | hx
        · exact h3 _ (.head _)
        · exact ih.rise x hx
    · next hlt =>
      split
      · next e =>
        subst e
        refine ⟨List.pairwise_cons.2 ⟨h1.1, h1.2⟩, fun x hx => ?_, fun x hx => ?_⟩
        · rcases List.mem_cons.1 hx with rfl | hx
          · exact place_ne _ _
          · exact hr.some x hx
        · rcases List.mem_cons.1 hx with rfl | hx
          · exact place_rise _ _ (h3 _ (.head _))
          · exact hr.rise x hx
      · next hne =>
        have hk : sLt k q.1 = true := (sLt_tri hne).resolve_left (fun h => hlt h)
        refine ⟨List.pairwise_cons.2 ⟨fun p hp => ?_, List.pairwise_cons.2 h1⟩, fun x hx => ?_, fun x hx => ?_⟩
        · rcases List.mem_cons.1 hp with rfl | hp
          · exact hk
          · exact sLt_trans hk (h1.1 p hp)
        · rcases List.mem_cons.1 hx with rfl | hx
          · simp
          · exact h2 x hx
        · rcases List.mem_cons.1 hx with rfl | hx
          · simp
          · exact h3 x hx
theorem has_cons (p : List UInt8 × List Ct) (T : Tb) (k : List UInt8) (c : Ct) : Has (p :: T) k c ↔ (p.1 = k ∧ c ∈ p.2) ∨ Has T k c := by
  constructor
  · rintro ⟨l, hl, hc⟩
    rcases List.mem_cons.1 hl with rfl | hl
    · exact .inl ⟨rfl, hc⟩
    · exact .inr ⟨l, hl, hc⟩
  · rintro (⟨rfl, hc⟩ | ⟨l, hl, hc⟩)
    · exact ⟨p.2, .head _, hc⟩
    · exact ⟨l, .tail _ hl, hc⟩
theorem has_put : ∀ (T : Tb) (k : List UInt8) (c : Ct) (k' : List UInt8) (c' : Ct), Has (putP T k c) k' c' ↔ Has T k' c' ∨ (k' = k ∧ c' = c)
  | [], k, c, k', c' => by
    simp only [putP, has_cons, List.mem_singleton, has_nil, or_false, false_or]
    exact ⟨fun ⟨a, b⟩ => ⟨a.symm, b⟩, fun ⟨a, b⟩ => ⟨a.symm, b⟩⟩
  | q :: r, k, c, k', c' => by
    unfold putP
    split
    · rw [has_cons, has_cons, has_put r k c k' c', or_assoc]
    · split
      · next e =>
        subst e
        simp only [has_cons, mem_place]
        constructor
        · rintro (⟨rfl, h | h⟩ | h)
          · exact .inl (.inl ⟨rfl, h⟩)
          · exact .inr ⟨rfl, h⟩
          · exact .inl (.inr h)
        · rintro ((⟨e, h⟩ | h) | ⟨rfl, rfl⟩)
          · exact .inl ⟨e, .inl h⟩
          · exact .inr h
          · exact .inl ⟨rfl, .inr rfl⟩
      · simp only [has_cons, List.mem_singleton]
        constructor
        · rintro (⟨rfl, h⟩ | h)
          · exact .inr ⟨rfl, h⟩
          · exact .inl h
        · rintro (h | ⟨rfl, rfl⟩)
          · exact .inr h
          · exact .inl ⟨rfl, rfl⟩
/-- The table of keys and places, in whatever order they come. -/
def tabP (hs : List (List UInt8 × Ct)) : Tb := hs.foldl (fun T h => putP T h.1 h.2) []
theorem reg_fold : ∀ (hs : List (List UInt8 × Ct)) (T : Tb), Reg T → Reg (hs.foldl (fun T h => putP T h.1 h.2) T)
  | [], _, h => h
  | _ :: r, _, h => reg_fold r _ (reg_put _ _ _ h)
theorem has_fold : ∀ (hs : List (List UInt8 × Ct)) (T : Tb) (k : List UInt8) (c : Ct), Has (hs.foldl (fun T h => putP T h.1 h.2) T) k c ↔ Has T k c ∨ (k, c) ∈ hs
  | [], T, k, c => by simp
  | _ :: r, T, k, c => by
    rw [List.foldl_cons, has_fold r, has_put, or_assoc, List.mem_cons]
    rw [← Prod.ext_iff (x := (k, c))]
theorem reg_tab (hs : List (List UInt8 × Ct)) : Reg (tabP hs) := reg_fold hs [] reg_nil
theorem has_tab (hs : List (List UInt8 × Ct)) (k : List UInt8) (c : Ct) : Has (tabP hs) k c ↔ (k, c) ∈ hs := by
  unfold tabP; rw [has_fold]; simp [has_nil]
theorem tab_eq {T : Tb} {hs : List (List UInt8 × Ct)} (hT : Reg T) (h : ∀ k c, Has T k c ↔ (k, c) ∈ hs) : T = tabP hs :=
  reg_ext hT (reg_tab hs) fun k c => (h k c).trans (has_tab hs k c).symm

/-- slices.Compact. -/
def dedP : List Ct → List Ct
  | [] => []
  | x :: r => match dedP r with
    | [] => [x]
    | y :: s => if x = y then y :: s else x :: y :: s
theorem ded_mem : ∀ (l : List Ct) (c : Ct), c ∈ dedP l ↔ c ∈ l
  | [], c => by simp [dedP]
  | x :: r, c => by
    have ih := ded_mem r c
    unfold dedP
    split
    · next e => rw [e] at ih; simp only [List.mem_cons, ← ih]
    · next y s e =>
      rw [e] at ih
      split
      · next hxy => subst hxy; rw [List.mem_cons (a := c) (l := r), ← ih]; simp
      · rw [List.mem_cons, List.mem_cons (a := c) (l := r), ← ih]
theorem ded_head : ∀ (l : List Ct) (y : Ct) (s : List Ct), dedP l = y :: s → y ∈ l
  | l, y, s, e => (ded_mem l y).1 (by rw [e]; exact .head _)
theorem ded_rise : ∀ (l : List Ct), (l.Pairwise fun a b => ¬ CLt b a) → (dedP l).Pairwise CLt
  | [], _ => .nil
  | x :: r, h => by
    rw [List.pairwise_cons] at h
    have ih := ded_rise r h.2
    unfold dedP
    split
    · simp
    · next y s e =>
      rw [e] at ih
      split
      · exact ih
      · next hne =>
        have hxy : CLt x y := (cLt_tri hne).resolve_right (h.1 y (ded_head r y s e))
        refine List.pairwise_cons.2 ⟨fun z hz => ?_, ih⟩
        rcases List.mem_cons.1 hz with rfl | hz
        · exact hxy
        · exact cLt_trans hxy ((List.pairwise_cons.1 ih).1 z hz)
theorem ded_ne {l : List Ct} (h : l ≠ []) : dedP l ≠ [] := by
  obtain ⟨c, hc⟩ := List.exists_mem_of_ne_nil _ h
  intro e
  have := (ded_mem l c).2 hc
  rw [e] at this; cases this
end Go.Proofs.YtdbnddmncbjobaaGreatDoor

/- Tables merged and looked up, in plain Lean. -/
namespace Go.Proofs.YtdbnddmncbjobaaGreatDoor

/-- The keys and places of a table, in its order. -/
def prs (T : Tb) : List (List UInt8 × Ct) := T.flatMap fun x => x.2.map fun c => (x.1, c)
theorem mem_prs (T : Tb) (k : List UInt8) (c : Ct) : (k, c) ∈ prs T ↔ Has T k c := by
  unfold prs Has
  simp only [List.mem_flatMap, List.mem_map, Prod.mk.injEq, Prod.exists]
  constructor
  · rintro ⟨k', l, h, c', hc, rfl, rfl⟩; exact ⟨l, h, hc⟩
  · rintro ⟨l, h, hc⟩; exact ⟨k, l, h, c, hc, rfl, rfl⟩
theorem prs_append (S T : Tb) : prs (S ++ T) = prs S ++ prs T := List.flatMap_append
theorem prs_cons (x : List UInt8 × List Ct) (T : Tb) : prs (x :: T) = (x.2.map fun c => (x.1, c)) ++ prs T := List.flatMap_cons
/-- Two tables merged. -/
def mrgP (S T : Tb) : Tb := tabP (prs S ++ prs T)
/-- The places of a key. -/
def findP (T : Tb) (k : List UInt8) : Option (List Ct) := (T.find? fun x => x.1 == k).map (·.2)
/-- The places of a key, or none. -/
def plc (T : Tb) (k : List UInt8) : List Ct := (findP T k).getD []
theorem nodup_sub_len {α : Type} [DecidableEq α] : ∀ {l l' : List α}, l.Nodup → (∀ x ∈ l, x ∈ l') → l.length ≤ l'.length
  | [], _, _, _ => Nat.zero_le _
  | x :: r, l', hn, h => by
    rw [List.nodup_cons] at hn
    have hx := h x (.head _)
    have ih := nodup_sub_len (l := r) (l' := l'.erase x) hn.2 fun y hy => (List.mem_erase_of_ne (fun e => hn.1 (by rw [← e]; exact hy))).2 (h y (.tail _ hy))
    rw [List.length_erase_of_mem hx] at ih
    have := List.length_pos_of_mem hx
    simp only [List.length_cons]
    omega
/-- How large tables grow. -/
theorem put_len : ∀ (T : Tb) (k : List UInt8) (c : Ct), (prs (putP T k c)).length ≤ (prs T).length + 1
  | [], k, c => by simp [putP, prs]
  | q :: r, k, c => by
    have ih := put_len r k c
    unfold putP
    split
    · simp only [prs_cons, List.length_append, List.length_map] at ih ⊢; omega
    · split
      · have h9 : ∀ l : List Ct, (placeP l c).length ≤ l.length + 1 := by
          intro l
          induction l with
          | nil => simp [placeP]
          | cons y l ih =>
            unfold placeP
            split
            · simp only [List.length_cons]; omega
            · split <;> simp only [List.length_cons] <;> omega
        have := h9 q.2
        simp only [prs_cons, List.length_append, List.length_map]; omega
      · simp only [prs_cons, List.length_append, List.length_map, List.length_cons, List.length_nil]; omega
theorem tab_len (hs : List (List UInt8 × Ct)) : (prs (tabP hs)).length ≤ hs.length := by
  have key : ∀ (hs : List (List UInt8 × Ct)) (T : Tb), (prs (hs.foldl (fun T h => putP T h.1 h.2) T)).length ≤ (prs T).length + hs.length := by
    intro hs
    induction hs with
    | nil => intro T; simp
    | cons h r ih => intro T; rw [List.foldl_cons]; have h1 := ih (putP T h.1 h.2); have h2 := put_len T h.1 h.2; simp only [List.length_cons]; omega
  have := key hs []
  simpa [prs, tabP] using this
theorem prs_le : ∀ {T : Tb}, (∀ x ∈ T, x.2 ≠ []) → T.length ≤ (prs T).length
  | [], _ => Nat.zero_le _
  | x :: T, h => by
    have h1 := prs_le (T := T) fun y hy => h y (.tail _ hy)
    have h2 := List.length_pos_iff.2 (h x (.head _))
    simp only [prs_cons, List.length_append, List.length_map, List.length_cons]
    omega
theorem prs_mem_le : ∀ {T : Tb} {x : List UInt8 × List Ct}, x ∈ T → x.2.length ≤ (prs T).length
  | y :: T, x, h => by
    simp only [prs_cons, List.length_append, List.length_map]
    rcases List.mem_cons.1 h with rfl | h
    · omega
    · have := prs_mem_le (T := T) h; omega
/-- A table is regular: the keys of what keys come with. -/
theorem tab_key {hs : List (List UInt8 × Ct)} {x : List UInt8 × List Ct} (h : x ∈ tabP hs) : ∃ c, (x.1, c) ∈ hs := by
  obtain ⟨c, hc⟩ := List.exists_mem_of_ne_nil _ ((reg_tab hs).some _ h)
  exact ⟨c, (has_tab hs _ _).1 ⟨x.2, h, hc⟩⟩
end Go.Proofs.YtdbnddmncbjobaaGreatDoor

/- What stands in the index of a book: hits, in plain Lean. -/
namespace Go.Proofs.YtdbnddmncbjobaaGreatDoor

/-- A seal. -/
structure Sea where
  ent : Int
  ver : Int
  fr : Int
  un : Int
  gr : Int
deriving DecidableEq, Inhabited
def covS (s : Sea) (e v n : Int) : Bool := decide (s.ent = e ∧ s.ver = v ∧ s.fr ≤ n ∧ n < s.un)
/-- Whether a word is sealed. -/
def seald (l : List Sea) (e v n : Int) : Bool := l.any fun s => covS s e v n
/-- The word of a text with a number. -/
def wordT (t : Tx) (n : Int) : Option Wd := if n < 0 then none else (t.paras ++ t.notes).flatten[n.toNat]?
/-- The text of a version of an entry. -/
def textB (b : Bk) (e v : Int) : Option Tx := (b.secs.find? fun x => x.ent == e).bind fun x => ((x.vers.zip x.texts).find? fun q => q.1 == v).map (·.2)
theorem textB_mem {b : Bk} {e v : Int} {t : Tx} (h : textB b e v = some t) : ∃ x ∈ b.secs, x.ent = e ∧ ∃ k : Nat, x.vers[k]? = some v ∧ x.texts[k]? = some t := by
  unfold textB at h
  obtain ⟨x, h1, h2⟩ := Option.bind_eq_some_iff.1 h
  obtain ⟨q, h3, h4⟩ := Option.map_eq_some_iff.1 h2
  refine ⟨x, List.mem_of_find?_eq_some h1, by simpa using List.find?_some h1, ?_⟩
  obtain ⟨k, hk⟩ := List.getElem?_of_mem (List.mem_of_find?_eq_some h3)
  have h5 := List.find?_some h3
  rw [List.getElem?_zip_eq_some] at hk
  have e1 : q.1 = v := by simpa using h5
  exact ⟨k, by rw [hk.1, e1], by rw [hk.2, h4]⟩
/-- What a word of a line of a page gives. -/
def hitW (br tb : Int) (ls : List Sea) (t : Tx) (p : Pg) (k : Nat) (n : Int) : List (List UInt8 × Ct) :=
  match wordT t n with
  | none => []
  | some w => if w.key ≠ [] ∧ w.tb = tb ∧ seald ls p.ent p.ver n = false then [(w.key, ⟨br, p.num, p.suf, (k : Int) + 1⟩)] else []
/-- m words from n on. -/
def hitN (br tb : Int) (ls : List Sea) (t : Tx) (p : Pg) (k : Nat) (n : Int) (m : Nat) : List (List UInt8 × Ct) := (List.range m).flatMap fun i => hitW br tb ls t p k (n + (i : Nat))
def hitX (br tb : Int) (ls : List Sea) (t : Tx) (p : Pg) (k : Nat) (x : Ln) : List (List UInt8 × Ct) := hitN br tb ls t p k x.fr (x.un - x.fr).toNat
/-- The first m lines of a page. -/
def hitL (br tb : Int) (ls : List Sea) (t : Tx) (p : Pg) (xs : List Ln) (m : Nat) : List (List UInt8 × Ct) := (List.range m).flatMap fun k => match xs[k]? with | none => [] | some x => hitX br tb ls t p k x
def hitP (br tb : Int) (ls : List Sea) (b : Bk) (p : Pg) : List (List UInt8 × Ct) :=
  match textB b p.ent p.ver with
  | none => []
  | some t => hitL br tb ls t p (p.body ++ p.nts) (p.body ++ p.nts).length
/-- What stands in the index of a book. -/
def hits (br tb : Int) (ls : List Sea) (b : Bk) : List (List UInt8 × Ct) := (pagesB b).flatMap (hitP br tb ls b)
theorem hitN_succ (br tb : Int) (ls : List Sea) (t : Tx) (p : Pg) (k : Nat) (n : Int) (m : Nat) : hitN br tb ls t p k n (m + 1) = hitN br tb ls t p k n m ++ hitW br tb ls t p k (n + (m : Nat)) := by
  unfold hitN; rw [List.range_succ, List.flatMap_append]; simp
theorem hitL_succ (br tb : Int) (ls : List Sea) (t : Tx) (p : Pg) {xs : List Ln} {m : Nat} {x : Ln} (h : xs[m]? = some x) : hitL br tb ls t p xs (m + 1) = hitL br tb ls t p xs m ++ hitX br tb ls t p m x := by
  unfold hitL; rw [List.range_succ, List.flatMap_append]; simp [h]
theorem hits_take (br tb : Int) (ls : List Sea) (b : Bk) {ps : List Pg} {i : Nat} {p : Pg} (h : ps[i]? = some p) : (ps.take (i + 1)).flatMap (hitP br tb ls b) = (ps.take i).flatMap (hitP br tb ls b) ++ hitP br tb ls b p := by
  rw [List.take_add_one, h, List.flatMap_append]; simp
/-- A key stands at a place. -/
def Hit (br tb : Int) (ls : List Sea) (b : Bk) (key : List UInt8) (c : Ct) : Prop :=
  ∃ p ∈ pagesB b, ∃ t, textB b p.ent p.ver = some t ∧ ∃ (k : Nat) (x : Ln), (p.body ++ p.nts)[k]? = some x ∧ ∃ n : Int, x.fr ≤ n ∧ n < x.un ∧ ∃ w, wordT t n = some w ∧ w.key = key ∧ key ≠ [] ∧ w.tb = tb ∧ seald ls p.ent p.ver n = false ∧ c = ⟨br, p.num, p.suf, (k : Int) + 1⟩
theorem mem_hitW {br tb : Int} {ls : List Sea} {t : Tx} {p : Pg} {k : Nat} {n : Int} {key : List UInt8} {c : Ct} : (key, c) ∈ hitW br tb ls t p k n ↔ ∃ w, wordT t n = some w ∧ w.key = key ∧ key ≠ [] ∧ w.tb = tb ∧ seald ls p.ent p.ver n = false ∧ c = ⟨br, p.num, p.suf, (k : Int) + 1⟩ := by
  unfold hitW
  cases hw : wordT t n with
  | none => simp
  | some w =>
    simp only [Option.some.injEq]
    split
    · next h =>
      obtain ⟨h1, h2, h3⟩ := h
      simp only [List.mem_singleton, Prod.mk.injEq]
      constructor
      · rintro ⟨rfl, rfl⟩; exact ⟨w, rfl, rfl, h1, h2, h3, rfl⟩
      · rintro ⟨_, rfl, rfl, _, _, _, rfl⟩; exact ⟨rfl, rfl⟩
    · next h =>
      simp only [List.not_mem_nil, false_iff]
      rintro ⟨_, rfl, rfl, h1, h2, h3, _⟩
      exact h ⟨h1, h2, h3⟩
theorem mem_hits {br tb : Int} {ls : List Sea} {b : Bk} {key : List UInt8} {c : Ct} : (key, c) ∈ hits br tb ls b ↔ Hit br tb ls b key c := by
  unfold hits Hit
  rw [List.mem_flatMap]
  refine exists_congr fun p => and_congr_right fun hp => ?_
  unfold hitP
  cases ht : textB b p.ent p.ver with
  | none => simp
  | some t =>
    simp only [Option.some.injEq, exists_eq_left']
    unfold hitL
    rw [List.mem_flatMap]
    constructor
    · rintro ⟨k, hk, h⟩
      obtain ⟨x, hx⟩ : ∃ x, (p.body ++ p.nts)[k]? = some x := ⟨_, List.getElem?_eq_getElem (List.mem_range.1 hk)⟩
      rw [hx] at h
      simp only [hitX, hitN] at h
      obtain ⟨i, hi, h⟩ := List.mem_flatMap.1 h
      have hi' := List.mem_range.1 hi
      exact ⟨k, x, hx, x.fr + (i : Nat), by omega, by omega, mem_hitW.1 h⟩
    · rintro ⟨k, x, hx, n, h1, h2, h⟩
      refine ⟨k, List.mem_range.2 (List.getElem?_eq_some_iff.1 hx).1, ?_⟩
      rw [hx]
      simp only [hitX, hitN]
      refine List.mem_flatMap.2 ⟨(n - x.fr).toNat, List.mem_range.2 (by omega), ?_⟩
      rw [show x.fr + (((n - x.fr).toNat : Nat) : Int) = n by omega]
      exact mem_hitW.2 h
/-- The table of a book. -/
def itemsB (br tb : Int) (ls : List Sea) (b : Bk) : Tb := tabP (hits br tb ls b)
theorem has_items (br tb : Int) (ls : List Sea) (b : Bk) (k : List UInt8) (c : Ct) : Has (itemsB br tb ls b) k c ↔ Hit br tb ls b k c := by
  unfold itemsB; rw [has_tab, mem_hits]
theorem reg_items (br tb : Int) (ls : List Sea) (b : Bk) : Reg (itemsB br tb ls b) := reg_tab _
theorem items_ext {br tb br' tb' : Int} {ls ls' : List Sea} {b b' : Bk} (h : ∀ k c, Hit br tb ls b k c ↔ Hit br' tb' ls' b' k c) : itemsB br tb ls b = itemsB br' tb' ls' b' :=
  reg_ext (reg_items _ _ _ _) (reg_items _ _ _ _) fun k c => by rw [has_items, has_items, h]
theorem wordT_lt {t : Tx} {n : Int} {w : Wd} (h : wordT t n = some w) : 0 ≤ n ∧ n < ((t.paras ++ t.notes).flatten.length : Nat) ∧ ∃ p ∈ t.paras ++ t.notes, w ∈ p := by
  unfold wordT at h
  split at h
  · cases h
  · next h0 =>
    have h1 := (List.getElem?_eq_some_iff.1 h).1
    have h2 := List.mem_of_getElem? h
    obtain ⟨p, hp, hw⟩ := List.mem_flatten.1 h2
    exact ⟨by omega, by omega, p, hp, hw⟩
end Go.Proofs.YtdbnddmncbjobaaGreatDoor

/- book.cloned: walked. -/
namespace Go.Proofs.YtdbnddmncbjobaaGreatDoor
open Go Go.RowKit

variable {β : Type}
theorem set2_list (l : List Value) (o : Nat) (h : o + 2 ≤ l.length) (a b : Value) : (l.set o a).set (o + 1) b = l.take o ++ [a, b] ++ l.drop (o + 2) := by
  apply List.ext_getElem?
  intro i
  simp only [List.getElem?_set, List.length_set]
  rw [List.append_assoc, List.getElem?_append]
  have hl : (l.take o).length = o := by simp; omega
  rw [hl]
  by_cases h1 : i < o
  · rw [if_pos h1, if_neg (by omega), if_neg (by omega), List.getElem?_take, if_pos h1]
  · rw [if_neg h1]
    by_cases e0 : i = o
    · subst e0; rw [if_neg (by omega), if_pos rfl, if_pos (by omega)]; simp
    by_cases e1 : i = o + 1
    · subst e1; rw [if_pos rfl, if_pos (by omega)]; simp
    rw [if_neg (by omega), if_neg (by omega), List.getElem?_append_right (by simp; omega), List.getElem?_drop]
    congr 1
    simp; omega
theorem put2_eq' (L : List Value) (s N i : Nat) (hs : s = 2) (hl : L.length = N * s) (hi : i < N) (a b : Value) : L.take (i * s) ++ [a, b] ++ L.drop (i * s + s) = (L.set (i * 2) a).set (i * 2 + 1) b := by
  subst hs
  rw [set2_list _ _ (by omega)]
/-- An element of two cells is set. -/
theorem Lay.own_put2 {k : Lay β} (hk : k.sz = 2) {e : TypeId} {W : World} {base g n c : Nat} {P : Nat → Prop} {xs : List β} (h : k.own e W base P (.slice (some ⟨g, 0, none⟩) n c) xs) {i : Nat} (hi : i < xs.length) {u0 u1 : Value} {x : β}
    (hr : k.rep W (fun j => P j ∧ (Value.slice (some ⟨g, 0, none⟩) n c).ownBlock ≠ some j) x [u0, u1]) :
    k.own e ((W.setCell ⟨g, i * 2, none⟩ u0).setCell ⟨g, i * 2 + 1, none⟩ u1) base P (.slice (some ⟨g, 0, none⟩) n c) (xs.set i x) := by
  obtain ⟨ds, h1, h2, h3⟩ := h
  have hn : n = ds.length := by
    rcases h1.2 with ⟨h1, _⟩ | ⟨g', cap, cur, h1, _⟩
    · cases h1
    · injection h1
  subst hn
  obtain ⟨d0, hd0⟩ : ∃ d0 : Cs k.sz, ccf d0 = [u0, u1] := mkCs _ (k.len hr) (k.one hr)
  rw [← hd0] at hr
  unfold OL at h1
  obtain ⟨s1, g1⟩ := World.ownsRow.stored h1 (i * 2) u0
  obtain ⟨s2, g2⟩ := World.ownsRow.stored s1 (i * 2 + 1) u1
  have hl := gcells_len (cf := ccf) ccf_len ds
  have hkeep : ∀ j, j < W.heap.size → (Value.slice (some ⟨g, 0, none⟩) ds.length c).ownBlock ≠ some j → ((W.setCell ⟨g, i * 2, none⟩ u0).setCell ⟨g, i * 2 + 1, none⟩ u1).heap[j]? = W.heap[j]? := fun j _ hj => by
    have hj : j ≠ g := fun e => hj (by rw [e]; rfl)
    rw [heap_setCell_other _ ⟨g, i * 2 + 1, none⟩ j u1 hj, heap_setCell_other _ ⟨g, i * 2, none⟩ j u0 hj]
  have hw : W.heap.size ≤ ((W.setCell ⟨g, i * 2, none⟩ u0).setCell ⟨g, i * 2 + 1, none⟩ u1).heap.size := by simp
  refine ⟨ds.set i d0, ?_, by rw [List.length_set, List.length_set, h2], fun j d y hd hy => ?_⟩
  · unfold OL
    have e2 : gcells ccf (ds.set i d0) = ((gcells ccf ds).set (i * 2) u0).set (i * 2 + 1) u1 := by
      rw [gcells_set ds i _ (by omega), hd0]
      exact put2_eq' _ _ ds.length i hk hl (by omega) _ _
    rw [e2, List.length_set]
    exact s2
  · rw [List.getElem?_set] at hd hy
    by_cases hij : i = j
    · rw [if_pos hij, if_pos (by omega)] at hd
      rw [if_pos hij, if_pos (by omega)] at hy
      injection hd with hd; injection hy with hy
      subst hd hy
      exact k.keep hr hw fun j hj hl => hkeep j hl hj.2
    · rw [if_neg hij] at hd hy
      exact k.keep (h3 j d y hd hy) hw fun j hj hl => hkeep j hl hj.2
/-- A book of bounded sizes. -/
structure TxS (t : Tx) : Prop where
  np : t.paras.length ≤ 1000000
  nn : t.notes.length ≤ 1000000
  len : ∀ p ∈ t.paras ++ t.notes, p.length ≤ 1000000
structure BkS (l : List Se) : Prop where
  n : l.length ≤ 1000000
  nv : ∀ s ∈ l, s.vers.length ≤ 1000000
  nt : ∀ s ∈ l, s.texts.length ≤ 1000000
  tx : ∀ s ∈ l, ∀ t ∈ s.texts, TxS t
theorem put2_se (ds : List (Cs kSe.sz)) (i : Nat) (d : Cs kSe.sz) (hd : ds[i]? = some d) (a b u v x y : Value) (hc : ccf d = [a, b, u, v]) (d' : Cs kSe.sz) (hc' : ccf d' = [a, b, x, y]) : ((gcells ccf ds).set (i * 4 + 2) x).set (i * 4 + 3) y = gcells ccf (ds.set i d') := by
  have hi := (List.getElem?_eq_some_iff.1 hd).1
  have hl : (gcells ccf ds).length = ds.length * 4 := gcells_len ccf_len ds
  have h0 : (gcells ccf ds)[i * 4]? = some a := by
    have := gcells_at (cf := ccf) ccf_len ds i d hd 0 (by rw [kSe_sz]; omega)
    rw [hc] at this
    exact this
  have h1 : (gcells ccf ds)[i * 4 + 1]? = some b := by
    have := gcells_at (cf := ccf) ccf_len ds i d hd 1 (by rw [kSe_sz]; omega)
    rw [hc] at this
    exact this
  have e0 : (gcells ccf ds).set (i * 4) a = gcells ccf ds := by
    obtain ⟨hq, he⟩ := List.getElem?_eq_some_iff.1 h0
    rw [← he]; exact List.set_getElem_self hq
  have e1 : (gcells ccf ds).set (i * 4 + 1) b = gcells ccf ds := by
    obtain ⟨hq, he⟩ := List.getElem?_eq_some_iff.1 h1
    rw [← he]; exact List.set_getElem_self hq
  have h4 := set4_list (gcells ccf ds) (i * 4) (by rw [hl]; omega) a b x y
  rw [e0, e1] at h4
  rw [h4, gcells_set ds i d' hi, hc']
  rfl
/-- The section x lies in blocks from lo to hi: its texts ahead of its versions; both are rows of the call's own. -/
def SeO (W : World) (lo hi : Nat) (x : Se) (cs : List Value) : Prop := ∃ (m : Nat) (A1 : Option Addr) (n1 c1 : Nat) (A2 : Option Addr) (n2 c2 : Nat), cs = [.int .i64 x.ent, .bool x.fz, .slice A1 n1 c1, .slice A2 n2 c2] ∧ lo ≤ m ∧ m ≤ hi ∧ n1 ≤ c1 ∧ n2 ≤ c2 ∧ n1 = x.vers.length ∧ n2 = x.texts.length ∧
  kTx.own 53 W lo (fun q => lo ≤ q ∧ q < m) (.slice A2 n2 c2) x.texts ∧ (∀ j, (Value.slice A2 n2 c2).ownBlock = some j → j < m) ∧ kInt.own 3 W m (fun _ => False) (.slice A1 n1 c1) x.vers ∧ (∀ j, (Value.slice A1 n1 c1).ownBlock = some j → j < hi)
theorem SeO.keep {W W' : World} {lo hi : Nat} {x : Se} {cs : List Value} (h : SeO W lo hi x cs) (hs : W.heap.size ≤ W'.heap.size) (hk : ∀ q, lo ≤ q → q < hi → q < W.heap.size → W'.heap[q]? = W.heap[q]?) : SeO W' lo hi x cs := by
  obtain ⟨m, A1, n1, c1, A2, n2, c2, h1, h2, h3, h4, h5, h6, h7, h8, h9, ha, hb⟩ := h
  refine ⟨m, A1, n1, c1, A2, n2, c2, h1, h2, h3, h4, h5, h6, h7, Lay.own_keep h8 hs fun j hj hl => ?_, h9, Lay.own_keep ha hs fun j hj hl => ?_, hb⟩
  · rcases hj with hj | hj
    · exact hk j hj.1 (by omega) hl
    · exact hk j (Lay.own_lt h8 j hj).1 (by have := h9 j hj; omega) hl
  · rcases hj with hj | hj
    · exact hj.elim
    · exact hk j (by have := (Lay.own_lt ha j hj).1; omega) (hb j hj) hl
theorem SeO.rep {W : World} {lo hi : Nat} {x : Se} {cs : List Value} (h : SeO W lo hi x cs) : kSe.rep W (fun q => lo ≤ q ∧ q < hi) x cs := by
  obtain ⟨m, A1, n1, c1, A2, n2, c2, h1, h2, h3, h4, h5, h6, h7, h8, h9, ha, hb⟩ := h
  obtain ⟨A8, c8, e8, _, r8⟩ := Lay.own_row h8
  obtain ⟨A9, c9, e9, _, r9⟩ := Lay.own_row ha
  obtain ⟨e1, e2, _⟩ := Value.slice.inj e8
  obtain ⟨e4, e5, _⟩ := Value.slice.inj e9
  rw [← e1, ← e2] at r8
  rw [← e4, ← e5] at r9
  refine kSe_rep.2 ⟨A1, n1, c1, A2, n2, c2, h1, h4, h5, Lay.row_mono r9 fun q hq _ => ?_, Lay.row_mono r8 fun q hq _ => ?_⟩
  · rcases hq with hq | hq
    · exact hq.elim
    · exact ⟨by have := (Lay.own_lt ha q hq).1; omega, hb q hq⟩
  · rcases hq with hq | hq
    · omega
    · exact ⟨(Lay.own_lt h8 q hq).1, by have := h9 q hq; omega⟩
theorem lo_mono {lo : Nat → Nat} {i : Nat} (h : ∀ j, j < i → lo j ≤ lo (j + 1)) : ∀ b a, a ≤ b → b ≤ i → lo a ≤ lo b := by
  intro b
  induction b with
  | zero => intro a ha _; obtain rfl : a = 0 := by omega
            exact Nat.le_refl _
  | succ b ih =>
    intro a ha hb
    rcases Nat.lt_or_ge a (b + 1) with h1 | h1
    · exact Nat.le_trans (ih a (by omega) (by omega)) (h b (by omega))
    · obtain rfl : a = b + 1 := by omega
      exact Nat.le_refl _
theorem Lay.own_base {k : Lay β} {e : TypeId} {W : World} {base base' : Nat} {P : Nat → Prop} {v : Value} {xs : List β} (h : k.own e W base P v xs) (hb : base' ≤ base) : k.own e W base' P v xs := by
  obtain ⟨ds, h1, h2⟩ := h
  refine ⟨ds, ⟨h1.1, ?_⟩, h2⟩
  rcases h1.2 with h | ⟨g, cap, cur, a1, a2, a3⟩
  · exact .inl h
  · exact .inr ⟨g, cap, cur, a1, Nat.le_trans hb a2, a3⟩
theorem Lay.own_bd {k : Lay β} {e : TypeId} {W : World} {base : Nat} {P Q : Nat → Prop} {v : Value} {xs : List β} (h : k.own e W base P v xs) (hq : ∀ j, P j → j < W.heap.size → Q j) : k.own e W base Q v xs := Lay.own_mono h hq
def CdR (w : World) (P : Nat → Prop) (g : Nat) (ls : List Se) (s19 : Value) (w' : World) : Prop := ∃ (i : Nat) (ds : List (Cs kSe.sz)) (lo : Nat → Nat), i ≤ ls.length ∧ s19 = .int .i64 i ∧ Ext w w' ∧ w'.heap[g]? = some (.cells (gcells ccf ds).toArray 46 (0, 0)) ∧ ds.length = ls.length ∧
  (g < lo 0 ∧ (∀ j, j < i → lo j ≤ lo (j + 1)) ∧ lo i ≤ w'.heap.size) ∧
  ∀ (j : Nat) (d : Cs kSe.sz) (x : Se), ds[j]? = some d → ls[j]? = some x → (j < i → SeO w' (lo j) (lo (j + 1)) x (ccf d)) ∧ (i ≤ j → kSe.rep w P x (ccf d))
theorem CdR_row {w' : World} {g n : Nat} {ls : List Se} {ds : List (Cs kSe.sz)} (hn : n = ls.length) (h1 : w'.heap[g]? = some (.cells (gcells ccf ds).toArray 46 (0, 0))) (h2 : ds.length = ls.length)
    (h3 : ∀ (j : Nat) (d : Cs kSe.sz) (x : Se), ds[j]? = some d → ls[j]? = some x → kSe.rep w' (fun q => g < q) x (ccf d)) : kSe.row w' (fun q => g ≤ q) (some ⟨g, 0, none⟩) n ls := by
  have hl := gcells_len (cf := ccf) ccf_len ds
  refine ⟨ds, hn, h2, ⟨by omega, fun _ => ⟨g, 0, rfl, lt_of_block h1, fun i d hd j u hu => ?_⟩⟩, fun x hx => ?_, fun i d x hd hx => kSe.mono (h3 i d x hd hx) fun q hq _ => Nat.le_of_lt hq⟩
  · have hj : j < kSe.sz := by rw [← ccf_len d]; exact (List.getElem?_eq_some_iff.1 hu).1
    have := gcells_at (cf := ccf) ccf_len ds i d hd j hj
    rw [hu] at this
    rw [Nat.zero_add]
    exact cell_of h1 (by simpa using this)
  · injection hx with hx; subst hx; exact ⟨Nat.le_refl _, lt_of_block h1⟩
theorem CdR_step {w wr W : World} {P : Nat → Prop} {g : Nat} {ls : List Se} {ds : List (Cs kSe.sz)} {i : Nat} {x : Se} {lo : Nat → Nat} (hx : Ext w wr) (hcur : Ext wr W) (hwg : w.heap.size ≤ g) (hg : wr.heap[g]? = some (.cells (gcells ccf ds).toArray 46 (0, 0))) (hdl : ds.length = ls.length) (hi : ls[i]? = some x)
    (hlo : g < lo 0 ∧ (∀ j, j < i → lo j ≤ lo (j + 1)) ∧ lo i ≤ wr.heap.size)
    (hd : ∀ (j : Nat) (d : Cs kSe.sz) (x : Se), ds[j]? = some d → ls[j]? = some x → (j < i → SeO wr (lo j) (lo (j + 1)) x (ccf d)) ∧ (i ≤ j → kSe.rep w P x (ccf d)))
    {A1 A2 : Option Addr} {n1 n2 c1 c2 : Nat} (hso : SeO W (lo i) W.heap.size x [.int .i64 x.ent, .bool x.fz, .slice A1 n1 c1, .slice A2 n2 c2]) :
    CdR w P g ls (.int .i64 ((i : Int) + 1)) ((W.setCell ⟨g, i * 4 + 2, none⟩ (.slice A1 n1 c1)).setCell ⟨g, i * 4 + 3, none⟩ (.slice A2 n2 c2)) := by
  have hgr : g < wr.heap.size := lt_of_block hg
  have hil := (List.getElem?_eq_some_iff.1 hi).1
  have hll := hcur.lt
  obtain ⟨l1, l2, l3⟩ := hlo
  have hgl : ∀ j, j ≤ i → g < lo j := fun j hj => Nat.lt_of_lt_of_le l1 (lo_mono l2 j 0 (by omega) hj)
  obtain ⟨d, hdi⟩ : ∃ d, ds[i]? = some d := ⟨_, List.getElem?_eq_getElem (by omega)⟩
  obtain ⟨a1, m1, q1, a2, m2, q2, hdc, _⟩ := kSe_rep.1 ((hd i d x hdi hi).2 (Nat.le_refl _))
  have hgW : W.heap[g]? = some (.cells (gcells ccf ds).toArray 46 (0, 0)) := (hcur.block _ hgr).trans hg
  have hkeep : ∀ q, q ≠ g → ((W.setCell ⟨g, i * 4 + 2, none⟩ (.slice A1 n1 c1)).setCell ⟨g, i * 4 + 3, none⟩ (.slice A2 n2 c2)).heap[q]? = W.heap[q]? := fun q hq => by
    rw [heap_setCell_other _ ⟨g, i * 4 + 3, none⟩ q _ hq, heap_setCell_other _ ⟨g, i * 4 + 2, none⟩ q _ hq]
  have hsz : ((W.setCell ⟨g, i * 4 + 2, none⟩ (.slice A1 n1 c1)).setCell ⟨g, i * 4 + 3, none⟩ (.slice A2 n2 c2)).heap.size = W.heap.size := by simp
  have hso' : SeO ((W.setCell ⟨g, i * 4 + 2, none⟩ (.slice A1 n1 c1)).setCell ⟨g, i * 4 + 3, none⟩ (.slice A2 n2 c2)) (lo i) W.heap.size x [.int .i64 x.ent, .bool x.fz, .slice A1 n1 c1, .slice A2 n2 c2] :=
    hso.keep (by omega) fun q hq _ _ => hkeep q (by have := hgl i (Nat.le_refl _); omega)
  have hrep := hso'.rep
  obtain ⟨d', hd'⟩ : ∃ d' : Cs kSe.sz, ccf d' = [.int .i64 x.ent, .bool x.fz, .slice A1 n1 c1, .slice A2 n2 c2] := mkCs _ (kSe.len hrep) (kSe.one hrep)
  refine ⟨i + 1, ds.set i d', fun j => if j ≤ i then lo j else W.heap.size, by omega, by simp, ((hx.trans hcur).setCell (p := ⟨g, i * 4 + 2, none⟩) hwg _).setCell (p := ⟨g, i * 4 + 3, none⟩) hwg _, ?_, by rw [List.length_set]; exact hdl, ⟨by show g < (if 0 ≤ i then lo 0 else W.heap.size); rw [if_pos (by omega)]; exact l1, fun j hj => ?_, by show (if i + 1 ≤ i then lo (i + 1) else W.heap.size) ≤ _; rw [if_neg (by omega), hsz]; exact Nat.le_refl _⟩, fun j dj y hdj hyj => ?_⟩
  · rw [heap_setCell_same _ g (i * 4 + 3) _ 46 _ (heap_setCell_same _ g (i * 4 + 2) _ 46 _ hgW), ← put2_se ds i d hdi _ _ _ _ _ _ hdc d' hd']
    simp
  · show (if j ≤ i then lo j else W.heap.size) ≤ (if j + 1 ≤ i then lo (j + 1) else W.heap.size)
    rw [if_pos (by omega)]
    by_cases hji : j + 1 ≤ i
    · rw [if_pos hji]; exact l2 j (by omega)
    · rw [if_neg hji]
      obtain rfl : j = i := by omega
      omega
  · rw [List.getElem?_set] at hdj
    by_cases hij : i = j
    · subst hij
      rw [if_pos rfl, if_pos (by omega)] at hdj
      injection hdj with hdj
      subst hdj
      rw [hi] at hyj
      injection hyj with hyj
      subst hyj
      rw [hd']
      refine ⟨fun _ => ?_, fun h => by omega⟩
      show SeO _ (if i ≤ i then lo i else W.heap.size) (if i + 1 ≤ i then lo (i + 1) else W.heap.size) _ _
      rw [if_pos (Nat.le_refl _), if_neg (by omega)]
      exact hso'
    · rw [if_neg hij] at hdj
      obtain ⟨g1, g2⟩ := hd j dj y hdj hyj
      refine ⟨fun hlt => ?_, fun hle => g2 (by omega)⟩
      show SeO _ (if j ≤ i then lo j else W.heap.size) (if j + 1 ≤ i then lo (j + 1) else W.heap.size) _ _
      rw [if_pos (by omega), if_pos (by omega)]
      exact (g1 (by omega)).keep (by omega) fun q hq _ hl => (hkeep q (by have := hgl j (by omega); omega)).trans (hcur.block q hl)
end Go.Proofs.YtdbnddmncbjobaaGreatDoor

/- book.cloned: walked. -/
namespace Go.Proofs.YtdbnddmncbjobaaGreatDoor
open Go Go.RowKit

theorem info46 : (Tryz.prog.info? 46).map (fun i => (i.zero, i.size, i.bytes)) = some (some (Value.agg #[.int .i64 0, .bool false, .slice none 0 0, .slice none 0 0]), 4, 64) := by kernel_rfl
theorem info53 : (Tryz.prog.info? 53).map (fun i => (i.zero, i.size, i.bytes)) = some (some (Value.agg #[.slice none 0 0, .slice none 0 0]), 2, 48) := by kernel_rfl
/-- make of n sections, and the copy into them. -/
theorem cp_secs (W : World) (P : Nat → Prop) (A : Option Addr) (n c : Nat) (ls : List Se) (h : kSe.row W P A n ls) (hn : n ≤ 1000000) : ∃ (Z : Array Value) (ds0 : List (Cs kSe.sz)), (∀ X, (Instr.makeSlice 25 (.int .i64 (n : Int)) (.int .i64 (n : Int))).run Tryz.prog X = .ok (.slice (some ⟨X.heap.size, 0, none⟩) n n) (X.alloc (.cells Z 46))) ∧
    ∃ v w2, (Builtin.copy_ #[25, 25] 3 #[.slice (some ⟨W.heap.size, 0, none⟩) n n, .slice A n c]).run Tryz.prog (W.alloc (.cells Z 46)) = .ok v w2 ∧ w2.heap[W.heap.size]? = some (.cells (gcells ccf ds0).toArray 46 (0, 0)) ∧ Ext W w2 ∧ ds0.length = ls.length ∧
      ∀ (j : Nat) (d : Cs kSe.sz) (x : Se), ds0[j]? = some d → ls[j]? = some x → kSe.rep W P x (ccf d) := by
  have hmk := fun X => run_mk (P := Tryz.prog) Tryz.underlying25 info46 (by omega) n hn (n : Int) rfl X
  obtain ⟨Z, hZ⟩ : ∃ Z, madeCells (Value.agg #[.int .i64 0, .bool false, .slice none 0 0, .slice none 0 0]).cells (n * 4) = Z := ⟨_, rfl⟩
  simp only [hZ] at hmk
  have hzl : Z.size = n * kSe.sz := by
    have h9 := congrArg List.length (made_flat #[.int .i64 0, .bool false, .slice none 0 0, .slice none 0 0] (by decide) n)
    rw [List.length_flatten, List.map_replicate, List.sum_replicate_nat] at h9
    rw [← hZ]
    exact h9
  obtain ⟨ds0, q1, q2, q3, q4, q5⟩ := h
  refine ⟨Z, ds0, hmk, ?_⟩
  rcases Nat.eq_zero_or_pos n with h0 | h0
  · have hds : ds0 = [] := List.eq_nil_of_length_eq_zero (by omega)
    have hz0 : Z = #[] := Array.eq_empty_of_size_eq_zero (by rw [hzl, h0]; omega)
    refine ⟨_, _, run_copy_zero (P := Tryz.prog) (W.alloc (.cells Z 46)) 25 25 3 46 _ A n n n c 4 Tryz.underlying25 (by kernel_rfl) (by rw [h0]; rfl), ?_, (Ext.refl W).alloc _, q2, q5⟩
    rw [hds, hz0]
    exact heap_alloc_new W _
  · obtain ⟨b0, off, rfl, hb0, hcs⟩ := q3.2 h0
    have hgl : (gcells ccf ds0).length = n * kSe.sz := by rw [gcells_len ccf_len, q2, ← q1]
    have hcpy := run_copy_sz (P := Tryz.prog) (W.alloc (.cells Z 46)) 25 25 3 46 W.heap.size 0 n n kSe.sz ⟨b0, off, none⟩ n c Z 46 (gcells ccf ds0) Tryz.underlying25 (by kernel_rfl) (heap_alloc_new W _) (by rw [hgl]; exact congrArg (· * kSe.sz) (Nat.min_self n).symm) (fun j u hu => by
      have hj : j < ds0.length * kSe.sz := by rw [← gcells_len (cf := ccf) ccf_len]; exact (List.getElem?_eq_some_iff.1 hu).1
      have hjs : j / kSe.sz < ds0.length := Nat.div_lt_of_lt_mul (by rw [Nat.mul_comm]; exact hj)
      have e : j = j / kSe.sz * kSe.sz + j % kSe.sz := by rw [Nat.mul_comm]; exact (Nat.div_add_mod j kSe.sz).symm
      have hmod : j % kSe.sz < kSe.sz := Nat.mod_lt _ (by rw [kSe_sz]; omega)
      rw [e, gcells_at ccf_len ds0 (j / kSe.sz) _ (List.getElem?_eq_getElem hjs) (j % kSe.sz) hmod] at hu
      have := hcs (j / kSe.sz) _ (List.getElem?_eq_getElem hjs) (j % kSe.sz) u hu
      rw [Nat.add_assoc, ← e] at this
      rw [Addr.add_lit]
      exact (((Ext.refl W).alloc (.cells Z 46)).cells.1 b0 _ hb0).trans this) (by rw [hgl]; omega) (gcells_one ccf_one ds0)
    refine ⟨_, _, hcpy, ?_, below_setRow ((Ext.refl W).alloc _) (Nat.le_refl _) _, q2, q5⟩
    rw [setRow_heap (W.alloc (.cells Z 46)) W.heap.size Z _ 46 (0, 0) (heap_alloc_new W _), hgl, List.take_zero, List.nil_append, List.drop_of_length_le (by rw [Array.length_toList, hzl]; omega), List.append_nil]
/-- make of n texts. -/
theorem mkTexts (n : Nat) (hn : n ≤ 1000000) : ∃ Z : Array Value, (∀ W (b : Nat) (w : World) P, W.heap[b]? = some (.cells Z 53 (0, 0)) → w.heap.size ≤ b → kTx.own 53 W w.heap.size P (.slice (some ⟨b, 0, none⟩) n n) (List.replicate n ⟨[], []⟩)) ∧
    ∀ W, (Instr.makeSlice 44 (.int .i64 (n : Int)) (.int .i64 (n : Int))).run Tryz.prog W = .ok (.slice (some ⟨W.heap.size, 0, none⟩) n n) (W.alloc (.cells Z 53)) := by
  refine ⟨_, fun W b w P h hb => ?_, fun W => run_mk (P := Tryz.prog) Tryz.underlying44 info53 (by omega) n hn (n : Int) rfl W⟩
  refine own_zero (k := kTx) 53 w P ⟨[], []⟩ [.slice none 0 0, .slice none 0 0] (fun W Q => kTx_rep.2 ⟨none, 0, 0, none, 0, 0, rfl, Nat.le_refl _, Nat.le_refl _, Lay.row_nil _ _ _, Lay.row_nil _ _ _⟩) n hn _ ?_ W b h hb
  exact made_flat #[.slice none 0 0, .slice none 0 0] (by decide) n
/-- A book's sections in a block of the call's own. -/
def BkO (W : World) (base : Nat) (ls : List Se) (g : Nat) : Prop := ∃ ds : List (Cs kSe.sz), base ≤ g ∧ W.heap[g]? = some (.cells (gcells ccf ds).toArray 46 (0, 0)) ∧ ds.length = ls.length ∧ ∀ (j : Nat) (d : Cs kSe.sz) (x : Se), ds[j]? = some d → ls[j]? = some x → kSe.rep W (fun q => g < q) x (ccf d)
theorem BkO.row {W : World} {base : Nat} {ls : List Se} {g : Nat} (h : BkO W base ls g) : kSe.row W (fun q => base ≤ q) (some ⟨g, 0, none⟩) ls.length ls := by
  obtain ⟨ds, h0, h1, h2, h3⟩ := h
  exact Lay.row_mono (CdR_row rfl h1 h2 h3) fun j hj _ => Nat.le_trans h0 hj
/-- A book's sections in a block of the call's own, each of them in blocks of its own. -/
def BkQ (W : World) (base : Nat) (ls : List Se) (g : Nat) : Prop := ∃ (ds : List (Cs kSe.sz)) (lo : Nat → Nat), base ≤ g ∧ W.heap[g]? = some (.cells (gcells ccf ds).toArray 46 (0, 0)) ∧ ds.length = ls.length ∧ (g < lo 0 ∧ (∀ j, j < ls.length → lo j ≤ lo (j + 1)) ∧ lo ls.length ≤ W.heap.size) ∧ ∀ (j : Nat) (d : Cs kSe.sz) (x : Se), ds[j]? = some d → ls[j]? = some x → SeO W (lo j) (lo (j + 1)) x (ccf d)
theorem BkQ.bko {W : World} {base : Nat} {ls : List Se} {g : Nat} (h : BkQ W base ls g) : BkO W base ls g := by
  obtain ⟨ds, lo, h0, h1, h2, ⟨l1, l2, l3⟩, h3⟩ := h
  refine ⟨ds, h0, h1, h2, fun j d x hd hx => kSe.mono (h3 j d x hd hx).rep fun q hq _ => ?_⟩
  have := lo_mono l2 j 0 (by omega) (by have := (List.getElem?_eq_some_iff.1 hx).1; omega)
  omega
/-- The first k texts are copied. -/
def CdT (w4 : World) (gt : Nat) (ts : List Tx) (s31 : Value) (w' : World) : Prop := ∃ k : Nat, k ≤ ts.length ∧ s31 = .int .i64 k ∧ Mv gt w4 w' ∧ kTx.own 53 w' gt (fun q => gt < q) (.slice (some ⟨gt, 0, none⟩) ts.length ts.length) (ts.take k ++ List.replicate (ts.length - k) ⟨[], []⟩)
set_option maxHeartbeats 8000000 in
set_option maxRecDepth 100000 in
theorem cloned_own (P : Nat → Prop) (w : World) (b : Bk) (A : Option Addr) (n c : Nat) (h : kSe.row w P A n b.secs) (hs : BkS b.secs) :
    Calls Tryz.prog 76 #[.agg #[.int .i64 b.ms, .int .i64 b.ht, .slice A n c]] w (fun e w' => ∃ g, e = .returned (.agg #[.int .i64 b.ms, .int .i64 b.ht, .slice (some ⟨g, 0, none⟩) n n]) ∧ BkQ w' w.heap.size b.secs g ∧ Ext w w') := by
  have hn : n ≤ 1000000 := by have := Lay.row_len h; have := hs.n; omega
  obtain ⟨b1, hb1⟩ : ∃ b1, w.heap.size = b1 := ⟨_, rfl⟩
  have HBE := Lib.hid hb1
  have HL := Lib.hid (Lay.row_len h)
  have HS := Lib.hid hs
  have HH := Lib.hid h
  clear h hs
  go_enter Tryz.func76, Tryz.ntmps76
  go_upto_region 1 with (fail)
  obtain ⟨W0, hW0⟩ : ∃ W0, (w.alloc (.cells #[.int .i64 b.ms, .int .i64 b.ht, .slice A n c] 27)).alloc (.cells #[.int .i64 0, .int .i64 0, .slice none 0 0] 27) = W0 := ⟨_, rfl⟩
  rw [hW0]
  have hx0 : Ext w W0 := by rw [← hW0]; exact ((Ext.refl w).alloc _).alloc _
  have hB1 : W0.heap[b1]? = some (.cells #[.int .i64 b.ms, .int .i64 b.ht, .slice A n c] 27 (0, 0)) := by
    rw [← hW0, ← hb1]
    exact (Below.heap_alloc _ _ _ (by simp)).trans (heap_alloc_new w _)
  have hB2 : W0.heap[b1 + 1]? = some (.cells #[.int .i64 0, .int .i64 0, .slice none 0 0] 27 (0, 0)) := by
    rw [← hW0, ← hb1]
    have := heap_alloc_new (w.alloc (.cells #[.int .i64 b.ms, .int .i64 b.ht, .slice A n c] 27)) (.cells #[.int .i64 0, .int .i64 0, .slice none 0 0] 27)
    rwa [World.size_alloc] at this
  have hsz : W0.heap.size = b1 + 2 := by rw [← hW0]; simp only [World.size_alloc]; omega
  obtain ⟨Z, ds0, hmk, vc, w2, hcpy, hg2, hx2, hdl, hd0⟩ := cp_secs W0 P A n c b.secs (Lay.row_ext HH.out hx0) hn
  obtain ⟨g, hg⟩ : ∃ g, W0.heap.size = g := ⟨_, rfl⟩
  have HCPY := Lib.hid hcpy
  have HB1 := Lib.hid hB1
  have HB2 := Lib.hid hB2
  have HX0 := Lib.hid hx0
  have HX2 := Lib.hid hx2
  rw [hg] at hg2 hsz HCPY
  have HG2 := Lib.hid hg2
  have HD0 := Lib.hid hd0
  have HDL := Lib.hid hdl
  have HBA := Lib.hid (fun X (hX : Ext W0 X) => (show X.cell? ⟨b1, 0, none⟩ = some (.int .i64 b.ms) ∧ X.cell? ⟨b1, 1, none⟩ = some (.int .i64 b.ht) ∧ X.cell? ⟨b1, 2, none⟩ = some (.slice A n c) from
    ⟨cell_of ((hX.block _ (lt_of_block HB1.out)).trans HB1.out) rfl, cell_of ((hX.block _ (lt_of_block HB1.out)).trans HB1.out) rfl, cell_of ((hX.block _ (lt_of_block HB1.out)).trans HB1.out) rfl⟩)) 
  have d2 := (HBA.out W0 (Ext.refl _)).2.2
  have d2' := (HBA.out (W0.alloc (.cells Z 46)) ((Ext.refl _).alloc _)).2.2
  have lb1 : b1 < g := by omega
  have HBW := Lib.hid (show b1 + 2 = g from hsz.symm)
  clear hcpy hB1 hB2 hx0 hx2 hg2 hd0 hdl hW0 hsz
  go_wp2_with (first | (refine wpList_copy_run' (s := .tmp 13) (x := .tmp 15) HCPY.out rfl rfl rfl rfl ?_))
  go_loopw [4, 5, 6, 19] (fun _ _ _ s19 w' => CdR W0 P g b.secs s19 w') (fun _ _ _ s19 _ => toM n s19)
  case atStart => exact ⟨0, ds0, fun _ => g + 1, by omega, rfl, HX2.out, HG2.out, HDL.out, ⟨Nat.lt_succ_self _, fun j hj => Nat.le_refl _, lt_of_block HG2.out⟩, fun j d x hd hx => ⟨fun h => by omega, fun _ => HD0.out j d x hd hx⟩⟩
  case round =>
    obtain ⟨i, ds, lo, hi, rfl, hx, hgr, hdl, hlo, hd⟩ := hrel
    have HLO := Lib.hid hlo
    clear hlo
    have HXr := Lib.hid hx
    have HG := Lib.hid hgr
    have HDS := Lib.hid hd
    clear hx hgr hd
    by_cases hlt : i < n
    case neg =>
      obtain rfl : n = i := by have := HL.out; omega
      have hni : ¬ ((n : Int) < (n : Int)) := by omega
      have e1 := (HXr.out.block _ (lt_of_block HB1.out)).trans HB1.out
      have e2 := (HXr.out.block _ (lt_of_block HB2.out)).trans HB2.out
      have a0 := cell_of e1 (i := 0) rfl
      have a1 := cell_of e1 (i := 1) rfl
      have a2 := cell_of e1 (i := 2) rfl
      have a3 := frozen_of e1 2
      have f0 := cell_of e2 (i := 0) rfl
      have f1 := cell_of e2 (i := 1) rfl
      have f2 := cell_of e2 (i := 2) rfl
      have f3 := frozen_of e2 0
      have f4 := frozen_of e2 1
      have f5 := frozen_of e2 2
      have hne : ¬ b1 = b1 + 1 := by omega
      have hne2 : ¬ b1 + 1 = b1 := by omega
      have HFN := Lib.hid (show BkQ ((((wr.setCell ⟨b1, 2, none⟩ (.slice (some ⟨g, 0, none⟩) n n)).setCell ⟨b1 + 1, 0, none⟩ (.int .i64 b.ms)).setCell ⟨b1 + 1, 1, none⟩ (.int .i64 b.ht)).setCell ⟨b1 + 1, 2, none⟩ (.slice (some ⟨g, 0, none⟩) n n)) w.heap.size b.secs g ∧ Ext w ((((wr.setCell ⟨b1, 2, none⟩ (.slice (some ⟨g, 0, none⟩) n n)).setCell ⟨b1 + 1, 0, none⟩ (.int .i64 b.ms)).setCell ⟨b1 + 1, 1, none⟩ (.int .i64 b.ht)).setCell ⟨b1 + 1, 2, none⟩ (.slice (some ⟨g, 0, none⟩) n n)) ∧
        ((((wr.setCell ⟨b1, 2, none⟩ (.slice (some ⟨g, 0, none⟩) n n)).setCell ⟨b1 + 1, 0, none⟩ (.int .i64 b.ms)).setCell ⟨b1 + 1, 1, none⟩ (.int .i64 b.ht)).setCell ⟨b1 + 1, 2, none⟩ (.slice (some ⟨g, 0, none⟩) n n)).heap[b1 + 1]? = some (.cells #[.int .i64 b.ms, .int .i64 b.ht, .slice (some ⟨g, 0, none⟩) n n] 27 (0, 0)) by
        have hbe := HBE.out
        have hbw := HBW.out
        have hkp : ∀ j, g ≤ j → ((((wr.setCell ⟨b1, 2, none⟩ (.slice (some ⟨g, 0, none⟩) n n)).setCell ⟨b1 + 1, 0, none⟩ (.int .i64 b.ms)).setCell ⟨b1 + 1, 1, none⟩ (.int .i64 b.ht)).setCell ⟨b1 + 1, 2, none⟩ (.slice (some ⟨g, 0, none⟩) n n)).heap[j]? = wr.heap[j]? := fun j hj => by
          rw [heap_setCell_other _ ⟨b1 + 1, 2, none⟩ j _ (by show j ≠ b1 + 1; omega), heap_setCell_other _ ⟨b1 + 1, 1, none⟩ j _ (by show j ≠ b1 + 1; omega), heap_setCell_other _ ⟨b1 + 1, 0, none⟩ j _ (by show j ≠ b1 + 1; omega), heap_setCell_other _ ⟨b1, 2, none⟩ j _ (by show j ≠ b1; omega)]
        refine ⟨⟨ds, lo, by omega, (hkp g (Nat.le_refl _)).trans HG.out, hdl, ⟨HLO.out.1, fun j hj => HLO.out.2.1 j (by have := HL.out; omega), by have h9 := HLO.out.2.2; have h8 := HL.out; rw [← h8]; simpa using h9⟩, fun j d x hd hx => ((HDS.out j d x hd hx).1 (by have := HL.out; have := (List.getElem?_eq_some_iff.1 hx).1; omega)).keep (by simp) fun q hq _ _ => hkp q (by have h9 := HLO.out.1; have h8 := lo_mono HLO.out.2.1 j 0 (by omega) (by have := HL.out; have := (List.getElem?_eq_some_iff.1 hx).1; omega); omega)⟩, ((((HX0.out.trans HXr.out).setCell (p := ⟨b1, 2, none⟩) (by show w.heap.size ≤ b1; omega) _).setCell (p := ⟨b1 + 1, 0, none⟩) (by show w.heap.size ≤ b1 + 1; omega) _).setCell (p := ⟨b1 + 1, 1, none⟩) (by show w.heap.size ≤ b1 + 1; omega) _).setCell (p := ⟨b1 + 1, 2, none⟩) (by show w.heap.size ≤ b1 + 1; omega) _, ?_⟩
        · rw [heap_setCell_same _ (b1 + 1) 2 _ 27 _ (heap_setCell_same _ (b1 + 1) 1 _ 27 _ (heap_setCell_same _ (b1 + 1) 0 _ 27 _ ((heap_setCell_other _ ⟨b1, 2, none⟩ (b1 + 1) _ (by show b1 + 1 ≠ b1; omega)).trans e2)))]
          rfl)
      have z0 := cell_of HFN.out.2.2 (i := 0) rfl
      have z1 := cell_of HFN.out.2.2 (i := 1) rfl
      have z2 := cell_of HFN.out.2.2 (i := 2) rfl
      clear e1 e2
      go_wp2_with fail
      refine bodyPost_ret (v := .agg #[.int .i64 b.ms, .int .i64 b.ht, .slice (some ⟨g, 0, none⟩) n n]) (by simp [results, Tryz.results76, go_sem, *]) rfl ?_
      exact ⟨g, rfl, by first | exact HFN.out.1 | (have h9 := HFN.out.1; simp only [HBE.out] at h9; exact h9), HFN.out.2.1⟩
    have hI : (i : Int) < (n : Int) := by omega
    obtain ⟨x, hx⟩ : ∃ x, b.secs[i]? = some x := ⟨_, List.getElem?_eq_getElem (by have := HL.out; omega)⟩
    obtain ⟨d, hdi⟩ : ∃ d, ds[i]? = some d := ⟨_, List.getElem?_eq_getElem (by have := HL.out; omega)⟩
    have hrep := (HDS.out i d x hdi hx).2 (Nat.le_refl _)
    obtain ⟨A1, n1, c1, A2, n2, c2, hdc, h1, h2, hr1, hr2⟩ := kSe_rep.1 hrep
    have hcl : ∀ k u, (ccf d)[k]? = some u → wr.cell? ⟨g, i * 4 + k, none⟩ = some u := fun k u hu => by
      have hk : k < kSe.sz := by rw [← ccf_len d]; exact (List.getElem?_eq_some_iff.1 hu).1
      have h9 := gcells_at (cf := ccf) ccf_len ds i d hdi k hk
      rw [hu] at h9
      have h9' : (gcells ccf ds)[i * 4 + k]? = some u := h9
      exact cell_of HG.out (by simpa using h9')
    rw [hdc] at hcl
    have e0 := hcl 0 _ rfl
    have e1 := hcl 1 _ rfl
    have e2 := hcl 2 _ rfl
    have e3 := hcl 3 _ rfl
    rw [Nat.add_zero] at e0
    have HR1 := Lib.hid (Lay.row_ext hr1 HXr.out)
    have HR2 := Lib.hid (Lay.row_ext hr2 HXr.out)
    have hnv := HS.out.nv x (List.mem_of_getElem? hx)
    have hnt := HS.out.nt x (List.mem_of_getElem? hx)
    have HTS := Lib.hid (HS.out.tx x (List.mem_of_getElem? hx))
    have HEv := Lib.hid (Lay.row_len hr1)
    have HEt := Lib.hid (Lay.row_len hr2)
    have HXI := Lib.hid hx
    have hgl : g < wr.heap.size := lt_of_block HG.out
    obtain ⟨ZT, hzt, hmkt⟩ := mkTexts n2 (by have := HEt.out; omega)
    have HZT := Lib.hid hzt
    obtain ⟨x1, x2, x3, x4⟩ := x
    simp only at e0 e1 HR1 HR2 hnv hnt HTS HEv HEt
    clear hcl hrep hr1 hr2 hx hzt hdc hdi
    go_wp2_with fail
    obtain ⟨w4, hw4⟩ : ∃ w4, (wr.alloc (.cells #[.int .i64 x1, .bool x2, .slice A1 n1 c1, .slice A2 n2 c2] 46)).alloc (.cells ZT 53) = w4 := ⟨_, rfl⟩
    rw [hw4]
    obtain ⟨gt, hgt⟩ : ∃ gt, wr.heap.size + 1 = gt := ⟨_, rfl⟩
    rw [hgt]
    have HX4 := Lib.hid (show Ext wr w4 by rw [← hw4]; exact ((Ext.refl wr).alloc _).alloc _)
    have HSB := Lib.hid (show w4.heap[wr.heap.size]? = some (.cells #[.int .i64 x1, .bool x2, .slice A1 n1 c1, .slice A2 n2 c2] 46 (0, 0)) by
      rw [← hw4]
      exact (Below.heap_alloc _ _ _ (by simp)).trans (heap_alloc_new wr _))
    have HO4 := Lib.hid (show kTx.own 53 w4 gt (fun q => gt < q) (.slice (some ⟨gt, 0, none⟩) n2 n2) (List.replicate n2 ⟨[], []⟩) by
      have h9 := HZT.out w4 gt (wr.alloc (.cells #[.int .i64 x1, .bool x2, .slice A1 n1 c1, .slice A2 n2 c2] 46)) (fun q => gt < q) (by
        rw [← hw4, ← hgt]
        have := heap_alloc_new (wr.alloc (.cells #[.int .i64 x1, .bool x2, .slice A1 n1 c1, .slice A2 n2 c2] 46)) (.cells ZT 53)
        rwa [World.size_alloc] at this) (by rw [World.size_alloc]; omega)
      rw [World.size_alloc, hgt] at h9
      exact h9)
    have h4s : gt < w4.heap.size := by rw [← hw4, World.size_alloc, World.size_alloc]; omega
    have hgg : g < gt := by omega
    have HSBG := Lib.hid (show wr.heap.size < gt by omega)
    clear hw4 hgt
    go_loopw [7, 8, 31] (fun _ _ s31 w' => CdT w4 gt x4 s31 w') (fun _ _ s31 _ => toM n2 s31)
    case atStart => exact ⟨0, by omega, rfl, Mv.refl _ _, by have h9 := HO4.out; rw [HEt.out] at h9; simpa using h9⟩
    case round =>
      rename World => wq
      obtain ⟨k, hk, rfl, hmv, ho⟩ := hrel
      have HMV := Lib.hid hmv
      have HO := Lib.hid ho
      have HXQ := Lib.hid (hmv.ext wr (Nat.le_of_lt HSBG.out) HX4.out)
      have hsbq := (hmv.keep wr.heap.size (by have := HSBG.out; omega) (by have := HSBG.out; omega)).trans HSB.out
      clear hmv ho
      by_cases hlk : k < n2
      case neg =>
        obtain rfl : n2 = k := by have := HEt.out; omega
        have hnk : ¬ ((n2 : Int) < (n2 : Int)) := by omega
        have s2 := cell_of hsbq (i := 2) rfl
        have HTR := Lib.hid (show kTx.own 53 wq gt (fun q => gt < q) (.slice (some ⟨gt, 0, none⟩) n2 n2) x4 by
          have h9 := HO.out
          have h8 := HEt.out
          rw [← h8, Nat.sub_self, List.replicate_zero, List.append_nil, List.take_of_length_le (by omega)] at h9
          exact h9)
        have HCL := Lib.hid (clone_int P (fun _ => False) wq A1 n1 c1 x3 (Lay.row_ext HR1.out HXQ.out) (by have := HEv.out; omega))
        have HFZ := Lib.hid (show ∀ X, Ext wr X → (∃ u, X.cell? ⟨g, i * 4 + 2, none⟩ = some u) ∧ (∃ u, X.cell? ⟨g, i * 4 + 3, none⟩ = some u) ∧ X.frozen? ⟨g, i * 4 + 2, none⟩ = false ∧ X.frozen? ⟨g, i * 4 + 3, none⟩ = false from fun X hX => by
          have h9 := (hX.block _ hgl).trans HG.out
          have hl9 : (gcells ccf ds).length = ds.length * 4 := gcells_len ccf_len ds
          exact ⟨⟨_, cell_of h9 (Array.getElem?_eq_getElem (by rw [List.size_toArray, hl9, hdl]; have := HL.out; omega))⟩, ⟨_, cell_of h9 (Array.getElem?_eq_getElem (by rw [List.size_toArray, hl9, hdl]; have := HL.out; omega))⟩, frozen_of h9 _, frozen_of h9 _⟩)
        go_wp2_with fail
        refine HCL.out.mono ?_
        rintro e w6 ⟨A7, c7, rfl, h7, ho7, hx7⟩
        have hcur : Ext wr w6 := HXQ.out.trans hx7
        obtain ⟨⟨u2, f0⟩, ⟨u3, f1⟩, f2, f3⟩ := HFZ.out _ hcur
        have hlt7 := Lay.own_lt ho7
        have HST := Lib.hid (CdR_step (P := P) (lo := lo) HXr.out hcur (by omega) HG.out hdl HXI.out HLO.out HDS.out (A1 := A7) (n1 := n1) (c1 := c7) (A2 := some ⟨gt, 0, none⟩) (n2 := n2) (c2 := n2)
          ⟨wq.heap.size, A7, n1, c7, some ⟨gt, 0, none⟩, n2, n2, rfl, Nat.le_trans HLO.out.2.2 HXQ.out.lt, hx7.lt, h7, Nat.le_refl n2, HEv.out, HEt.out,
            Lay.own_base (Lay.own_ext (Lay.own_bd HTR.out (fun q hq hl => ⟨by have := HLO.out.2.2; have := HSBG.out; omega, hl⟩)) hx7) (by have := HLO.out.2.2; have := HSBG.out; omega), fun j hj => (Lay.own_lt HTR.out j hj).2, ho7, fun j hj => (hlt7 j hj).2⟩)
        clear ho7 hx7
        go_wp2_with fail
        go_roundw
        case rel => exact HST.out
        case measure => simp only [toM]; omega
      have hK : (k : Int) < (n2 : Int) := by omega
      obtain ⟨tx, htx⟩ : ∃ tx, x4[k]? = some tx := ⟨_, List.getElem?_eq_getElem (by have := HEt.out; omega)⟩
      obtain ⟨b5, o5, cs5, rfl, hb5, _, hrep5, hcell5⟩ := Lay.row_at (Lay.row_ext HR2.out HXQ.out) htx
      obtain ⟨A5, n5, c5, A6, n6, c6, rfl, h5, h6, hr5, hr6⟩ := kTx_rep.1 hrep5
      have y0 := hcell5 0 _ rfl
      have y1 := hcell5 1 _ rfl
      rw [kTx_sz] at y0 y1
      rw [Nat.add_zero] at y0
      have hts := HTS.out tx (List.mem_of_getElem? htx)
      have HTX := Lib.hid (fun X (hX : Ext wq X) => text_any P X tx A5 A6 n5 n6 c5 c6 (Lay.row_ext hr5 hX) (Lay.row_ext hr6 hX) (by have := Lay.row_len hr5; have := hts.np; omega) (by have := Lay.row_len hr6; have := hts.nn; omega) hts.len)
      have HTI := Lib.hid htx
      have hgq : gt < wq.heap.size := Nat.lt_of_lt_of_le h4s HMV.out.size
      clear hcell5 hrep5 hr5 hr6 htx
      go_wp2_with fail
      refine (HTX.out _ ((Ext.refl wq).alloc _)).mono ?_
      rintro e w6 ⟨v, rfl, ⟨A7, n7, c7, A8, n8, c8, rfl, h7, h8, hr7, hr8⟩, hx6⟩
      have hxq6 : Ext wq w6 := ((Ext.refl wq).alloc _).trans hx6
      have ho6 := Lay.own_ext HO.out hxq6
      obtain ⟨cur, hcurB, hcs⟩ := own_block ho6
      have hlen6 : (x4.take k ++ List.replicate (x4.length - k) (⟨[], []⟩ : Tx)).length = n2 := by rw [List.length_append, List.length_take, List.length_replicate]; have := HEt.out; omega
      rw [hlen6, kTx_sz] at hcs
      obtain ⟨v0, g0⟩ : ∃ v, w6.cell? ⟨gt, k * 2, none⟩ = some v := ⟨_, cell_of hcurB (Array.getElem?_eq_getElem (by omega))⟩
      obtain ⟨v1, g1⟩ : ∃ v, w6.cell? ⟨gt, k * 2 + 1, none⟩ = some v := ⟨_, cell_of hcurB (Array.getElem?_eq_getElem (by omega))⟩
      have g2 := frozen_of hcurB (k * 2)
      have g3 := frozen_of hcurB (k * 2 + 1)
      have HREL := Lib.hid (show CdT w4 gt x4 (.int .i64 ((k : Int) + 1)) ((w6.setCell ⟨gt, k * 2, none⟩ (.slice A7 n7 c7)).setCell ⟨gt, k * 2 + 1, none⟩ (.slice A8 n8 c8)) by
        refine ⟨k + 1, by have := HEt.out; omega, by simp, ((HMV.out.trans (Mv.of_ext hxq6)).trans (Mv.set _)).trans (Mv.set _), ?_⟩
        have hm : ∀ {A : Option Addr} {n : Nat} {xs : List (List Wd)}, kWs.row w6 (fun j => (wq.alloc (.cells #[.slice A5 n5 c5, .slice A6 n6 c6] 53)).heap.size ≤ j) A n xs → kWs.row w6 (fun j => gt < j ∧ (Value.slice (some ⟨gt, 0, none⟩) x4.length x4.length).ownBlock ≠ some j) A n xs := fun h => Lay.row_mono h fun j hj _ => by
          rw [World.size_alloc] at hj
          exact ⟨by have := HMV.out.size; omega, by simp [Value.ownBlock]; omega⟩
        have h9 := Lay.own_put2 kTx_sz ho6 (i := k) (by rw [hlen6]; omega) (x := tx) (kTx_rep.2 ⟨A7, n7, c7, A8, n8, c8, rfl, h7, h8, hm hr7, hm hr8⟩)
        rwa [take_setL _ _ _ _ _ (by have := HEt.out; omega) HTI.out] at h9)
      clear hcurB hcs ho6 hr7 hr8 hx6 hxq6 hlen6
      go_wp2_with fail
      go_roundw
      case rel => exact HREL.out
      case measure => simp only [toM]; omega
theorem cloned_any (P : Nat → Prop) (w : World) (b : Bk) (A : Option Addr) (n c : Nat) (h : kSe.row w P A n b.secs) (hs : BkS b.secs) :
    Calls Tryz.prog 76 #[.agg #[.int .i64 b.ms, .int .i64 b.ht, .slice A n c]] w (fun e w' => ∃ g, e = .returned (.agg #[.int .i64 b.ms, .int .i64 b.ht, .slice (some ⟨g, 0, none⟩) n n]) ∧ BkO w' w.heap.size b.secs g ∧ Ext w w') := by
  refine (cloned_own P w b A n c h hs).mono ?_
  rintro e w' ⟨g, rfl, h1, h2⟩
  exact ⟨g, rfl, h1.bko, h2⟩
end Go.Proofs.YtdbnddmncbjobaaGreatDoor

/- book.Freeze: walked. -/
namespace Go.Proofs.YtdbnddmncbjobaaGreatDoor
open Go Go.RowKit

end Go.Proofs.YtdbnddmncbjobaaGreatDoor

/- slices.IndexFunc at sections, book.find, the search of cite.Of: walked (printed by genfn.py). -/
namespace Go.Proofs.YtdbnddmncbjobaaGreatDoor
open Go Go.RowKit

set_option maxHeartbeats 2000000 in
set_option maxRecDepth 100000 in
theorem clo131 (X : World) (b : Nat) (e : Int) (x : Se) (u v : Value) (_hu : u.oneCell' = true) (_hv : v.oneCell' = true) (h : X.cell? ⟨b, 0, none⟩ = some (.int .i64 e)) :
    Calls Tryz.prog 131 #[.agg #[.int .i64 x.ent, .bool x.fz, u, v], .pointer (some ⟨b, 0, none⟩)] X (fun z X' => z = .returned (.bool (x.ent == e)) ∧ Ext X X') := by
  obtain ⟨q, hq⟩ : ∃ q, (x.ent == e) = q := ⟨_, rfl⟩
  have hbl : b < X.heap.size := World.block_lt_of_cell? X _ h
  have hne : ¬ b = X.heap.size := by omega
  rw [hq]
  go_enter Tryz.func131, Tryz.ntmps131
  go_wp2_with fail
  go_ret
  exact ⟨by simp, (Ext.refl X).alloc _⟩
set_option maxHeartbeats 4000000 in
set_option maxRecDepth 100000 in
theorem idx130_131 (p : Se → Bool) (P : Nat → Prop) (W : World) (A : Option Addr) (n c b : Nat) (xs : List Se) (h : kSe.row W P A n xs) (hn : n ≤ 1000000)
    (hp : ∀ X (x : Se) u v, Ext W X → u.oneCell' = true → v.oneCell' = true → Calls Tryz.prog 131 #[.agg #[.int .i64 x.ent, .bool x.fz, u, v], .pointer (some ⟨b, 0, none⟩)] X (fun e X' => e = .returned (.bool (p x)) ∧ Ext X X')) :
    Calls Tryz.prog 130 #[.slice A n c, .func (.func 131) #[] #[.pointer (some ⟨b, 0, none⟩)]] W (fun e W' => e = .returned (.int .i64 (idxI p xs)) ∧ Ext W W') := by
  have hl := Lay.row_len h
  have HR := Lib.hid h
  have HP := Lib.hid hp
  have HL := Lib.hid hl
  clear h hp hl
  go_enter Tryz.func130, Tryz.ntmps130
  go_wp2_with fail
  go_loopw [5, 8] (fun _ s8 w' => IdRel p W xs s8 w') (fun _ s8 _ => toM n s8)
  case atStart => exact ⟨0, by omega, rfl, fun y hy => by simp at hy, Ext.refl _⟩
  case round =>
    obtain ⟨i, hi, rfl, ht, hx⟩ := hrel
    rw [← HL.out] at hi
    have HT := Lib.hid ht
    have HX := Lib.hid hx
    clear ht hx
    by_cases hlt : i < n
    case neg =>
      obtain rfl : i = n := by omega
      have hni : ¬ ((i : Int) < (i : Int)) := by omega
      have HF := Lib.hid (show idxI p xs = -1 from idxI_neg p xs (by have := HT.out; rw [HL.out, List.take_length] at this; exact this))
      go_wp2_with fail
      go_ret
      exact ⟨ret_i HF.out.symm, HX.out⟩
    have hI : (i : Int) < (n : Int) := by omega
    obtain ⟨x, hxi⟩ : ∃ x, xs[i]? = some x := ⟨_, List.getElem?_eq_getElem (by have := HL.out; omega)⟩
    obtain ⟨bb, off, cs, rfl, hb, _, hrep, hc⟩ := Lay.row_at (Lay.row_ext HR.out HX.out) hxi
    obtain ⟨A1, n1, c1, A2, n2, c2, rfl, _⟩ := kSe_rep.1 hrep
    have e0 := hc 0 _ rfl
    have e1 := hc 1 _ rfl
    have e2 := hc 2 _ rfl
    have e3 := hc 3 _ rfl
    rw [kSe_sz] at e0 e1 e2 e3
    rw [Nat.add_zero] at e0
    have HC := Lib.hid (HP.out _ x (.slice A1 n1 c1) (.slice A2 n2 c2) HX.out rfl rfl)
    have HXI := Lib.hid hxi
    clear hc hrep hxi
    obtain ⟨q, hq⟩ : ∃ q, q = p x := ⟨_, rfl⟩
    rw [← hq] at HC
    have HQ := Lib.hid hq
    clear hq
    cases q with
    | true =>
      have HF := Lib.hid (show idxI p xs = i from idxI_at p xs i x HT.out HXI.out HQ.out.symm)
      go_wp2_with (first | (go_at_call 131; refine (HC.out).mono ?_; rintro e w1 ⟨rfl, hx1⟩))
      go_ret
      exact ⟨ret_i HF.out.symm, HX.out.trans hx1⟩
    | false =>
      go_wp2_with (first | (go_at_call 131; refine (HC.out).mono ?_; rintro e w1 ⟨rfl, hx1⟩))
      go_roundw
      case rel => exact ⟨i + 1, by have := HL.out; omega, by simp, take_none HT.out HXI.out HQ.out.symm, HX.out.trans hx1⟩
      case measure => simp only [toM]; omega

set_option maxHeartbeats 4000000 in
set_option maxRecDepth 100000 in
theorem find_any (P : Nat → Prop) (w : World) (m h e : Int) (l : List Se) (A : Option Addr) (n c : Nat) (hr : kSe.row w P A n l) (hn : n ≤ 1000000) :
    Calls Tryz.prog 81 #[.agg #[.int .i64 m, .int .i64 h, .slice A n c], .int .i64 e] w (fun z w' => z = .returned (.int .i64 (idxI (fun x => x.ent == e) l)) ∧ Ext w w') := by
  obtain ⟨b1, hb1⟩ : ∃ b1, w.heap.size = b1 := ⟨_, rfl⟩
  obtain ⟨r, hr2⟩ : ∃ r, idxI (fun x => x.ent == e) l = r := ⟨_, rfl⟩
  rw [hr2]
  go_enter Tryz.func81, Tryz.ntmps81
  go_upto_region 1 with (fail)
  obtain ⟨W0, hW0⟩ : ∃ W0, (w.alloc (.cells #[.int .i64 m, .int .i64 h, .slice A n c] 27)).alloc (.cells #[.int .i64 e] 3) = W0 := ⟨_, rfl⟩
  rw [hW0]
  have hx0 : Ext w W0 := by rw [← hW0]; exact ((Ext.refl w).alloc _).alloc _
  have hB1 : W0.heap[b1]? = some (.cells #[.int .i64 m, .int .i64 h, .slice A n c] 27 (0, 0)) := by
    rw [← hW0, ← hb1]
    exact (Below.heap_alloc _ _ _ (by simp)).trans (heap_alloc_new w _)
  have hB2 : W0.heap[b1 + 1]? = some (.cells #[.int .i64 e] 3 (0, 0)) := by
    rw [← hW0, ← hb1]
    have := heap_alloc_new (w.alloc (.cells #[.int .i64 m, .int .i64 h, .slice A n c] 27)) (.cells #[.int .i64 e] 3)
    rwa [World.size_alloc] at this
  have HI := Lib.hid (idx130_131 (fun x => x.ent == e) P W0 A n c (b1 + 1) l (Lay.row_ext hr hx0) hn fun X x u v hX hu hv => clo131 X (b1 + 1) e x u v hu hv (cell_of ((hX.block _ (lt_of_block hB2)).trans hB2) rfl))
  have HX0 := Lib.hid hx0
  have a2 := cell_of hB1 (i := 2) rfl
  rw [hr2] at HI
  clear hB1 hB2 hW0 hx0 hr hr2
  go_wp2_with (first | (go_at_call 130; refine (HI.out).mono ?_; rintro z w1 ⟨rfl, hx1⟩))
  go_ret
  exact ⟨rfl, HX0.out.trans hx1⟩
end Go.Proofs.YtdbnddmncbjobaaGreatDoor

/- The pages of generated texts: there are some, not too many, with not too many lines. -/
namespace Go.Proofs.YtdbnddmncbjobaaGreatDoor

def lrefs (l : List Ln) : List Int := l.flatMap (·.nts)
theorem lrefs_append (a b : List Ln) : lrefs (a ++ b) = lrefs a ++ lrefs b := by simp [lrefs]
theorem ntsOfB (p : List Wd) : (p.filterMap fun w => if w.nt ≠ 0 then some (w.nt - 1) else none) = (refs p).map (· - 1) := by
  induction p with
  | nil => rfl
  | cons w r ih =>
    by_cases h : w.nt ≠ 0
    · rw [List.filterMap_cons_some (by rw [if_pos h]), ih]
      unfold refs
      rw [List.filter_cons_of_pos (by simpa using h)]; rfl
    · rw [List.filterMap_cons_none (by rw [if_neg h]), ih]
      unfold refs
      rw [List.filter_cons_of_neg (by simpa using h)]
theorem linesGo_nts (m : Int) : ∀ (ls : List Nat) (ws : List Wd) (first : Int), ls.sum = ws.length → lrefs (linesGo m ws ls first) = (refs ws).map (· - 1) := by
  intro ls
  induction ls with
  | nil =>
    intro ws first h
    obtain rfl : ws = [] := List.eq_nil_of_length_eq_zero (by simpa using h.symm)
    simp [linesGo, lrefs, refs]
  | cons l ls ih =>
    intro ws first h
    rw [List.sum_cons] at h
    simp only [linesGo]
    show _ ++ lrefs _ = _
    rw [ih _ _ (by simp; omega), ntsOfB, ← List.map_append, ← refs_append, List.take_append_drop]
theorem linesGo_lenB (m : Int) : ∀ (ls : List Nat) (ws : List Wd) (first : Int), (linesGo m ws ls first).length = ls.length := by
  intro ls
  induction ls with
  | nil => intro ws first; simp [linesGo]
  | cons l ls ih => intro ws first; simp [linesGo, ih]
theorem sum_ge {l : List Nat} (h : ∀ x ∈ l, 1 ≤ x) : l.length ≤ l.sum := by
  induction l with
  | nil => simp
  | cons a l ih => have := ih fun x hx => h x (by simp [hx]); have := h a (by simp); simp; omega
theorem setP_nts {m : Int} (hm : 500 ≤ m) (ws : List Wd) (first : Int) : lrefs (setP ws first m) = (refs ws).map (· - 1) :=
  linesGo_nts m _ _ _ (by rw [(lens_ok hm (wds_of ws)).2]; simp)
theorem setP_len {m : Int} (hm : 500 ≤ m) (ws : List Wd) (first : Int) : (setP ws first m).length ≤ ws.length ∧ (ws ≠ [] → 1 ≤ (setP ws first m).length) := by
  have h := lens_ok hm (wds_of ws)
  have h1 := sum_ge h.1
  rw [h.2, List.length_map] at h1
  unfold setP
  rw [linesGo_lenB]
  refine ⟨h1, fun h0 => ?_⟩
  have h2 := h.2
  cases hl : lens (ws.map fun w => wid w.s) m with
  | nil =>
    rw [hl] at h2
    exact absurd (List.eq_nil_of_length_eq_zero (by simpa using h2.symm)) h0
  | cons a b => simp
theorem setsP_lenB (m : Int) : ∀ (ps : List (List Wd)) (first : Int), (setsP m ps first).length = ps.length := by
  intro ps
  induction ps with
  | nil => intro _; rfl
  | cons p ps ih => intro first; simp [setsP, ih]
theorem setsP_nts {m : Int} (hm : 500 ≤ m) : ∀ (ps : List (List Wd)) (first : Int), lrefs (setsP m ps first).flatten = (refs ps.flatten).map (· - 1) := by
  intro ps
  induction ps with
  | nil => intro _; rfl
  | cons p ps ih =>
    intro first
    simp only [setsP, List.flatten_cons, lrefs_append, refs_append, List.map_append]
    rw [setP_nts hm, ih]
theorem setsP_mem {m : Int} : ∀ (ps : List (List Wd)) (first : Int), ∀ l ∈ setsP m ps first, ∃ p ∈ ps, ∃ f, l = setP p f m := by
  intro ps
  induction ps with
  | nil => intro _ l hl; simp [setsP] at hl
  | cons p ps ih =>
    intro first l hl
    simp only [setsP, List.mem_cons] at hl
    rcases hl with rfl | hl
    · exact ⟨p, by simp, first, rfl⟩
    · obtain ⟨q, hq, f, e⟩ := ih _ l hl
      exact ⟨q, by simp [hq], f, e⟩
theorem flat_len {m : Int} (hm : 500 ≤ m) (B : Nat) : ∀ (ps : List (List Wd)) (first : Int), (∀ p ∈ ps, p.length ≤ B) → (setsP m ps first).flatten.length ≤ B * ps.length := by
  intro ps
  induction ps with
  | nil => intro _ _; simp [setsP]
  | cons p ps ih =>
    intro first h
    have h1 := ih (first + p.length) fun q hq => h q (by simp [hq])
    have h2 := (setP_len hm p first).1
    have h3 := h p (by simp)
    simp only [setsP, List.flatten_cons, List.length_append, List.length_cons, Nat.mul_add, Nat.mul_one]
    omega
theorem ordN_ok (nn : Int) : ∀ (l : List Int) (k : Nat), l = (List.range l.length).map (fun (i : Nat) => (k : Int) + i) → (k : Int) + l.length ≤ nn → ordN nn l k = some ((k + l.length : Nat) : Int) := by
  intro l
  induction l with
  | nil => intro k _ _; simp [ordN]
  | cons n r ih =>
    intro k hl hk
    simp only [List.length_cons, List.range_succ_eq_map, List.map_cons, List.map_map, List.cons.injEq] at hl hk
    have h1 : n = k := by simpa using hl.1
    simp only [ordN]
    rw [if_neg (by omega)]
    have := ih (k + 1) (hl.2.trans (List.map_congr_left fun i _ => by simp only [Function.comp, Nat.succ_eq_add_one]; omega)) (by omega)
    rw [show (k : Int) + 1 = ((k + 1 : Nat) : Int) by omega, this]
    simp only [List.length_cons]
    congr 1; omega
theorem range_split0 (a b k : Nat) : (List.range (a + b)).map (fun (i : Nat) => (k : Int) + i) = (List.range a).map (fun (i : Nat) => (k : Int) + i) ++ (List.range b).map (fun (i : Nat) => ((k + a : Nat) : Int) + i) := by
  rw [List.range_add, List.map_append, List.map_map]
  congr 1
  refine List.map_congr_left fun i _ => ?_
  simp only [Function.comp]; omega
theorem ordL_ok (nn : Int) : ∀ (l : List Ln) (k : Nat), lrefs l = (List.range (lrefs l).length).map (fun (i : Nat) => (k : Int) + i) → (k : Int) + (lrefs l).length ≤ nn → ordL nn l k = some ((k + (lrefs l).length : Nat) : Int) := by
  intro l
  induction l with
  | nil => intro k _ _; simp [ordL, lrefs]
  | cons x r ih =>
    intro k hl hk
    have e : lrefs (x :: r) = x.nts ++ lrefs r := rfl
    rw [e] at hl hk ⊢
    rw [List.length_append] at hl hk ⊢
    rw [range_split0] at hl
    have hl := List.append_inj hl (by simp)
    simp only [ordL]
    rw [ordN_ok nn x.nts k hl.1 (by omega)]
    simp only [Option.bind_some]
    rw [ih _ hl.2 (by omega)]
    congr 1; omega
theorem setF_len (h : Int) (notes : List (List Ln)) : ∀ (f : Nat) (body q : List Ln), (setF h notes f body q).length ≤ f := by
  intro f
  induction f with
  | zero => intro _ _; simp [setF]
  | succ f ih => intro body q; rw [setF]; split
                 · simp
                 · simp only [List.length_cons]; have := ih (body.drop (fillP h notes body q 0 (min (q.length : Int) (h - 1))).1) ((fillP h notes body q 0 (min (q.length : Int) (h - 1))).2.1.drop (fillP h notes body q 0 (min (q.length : Int) (h - 1))).2.2.toNat); omega
/-- A page holds no more lines than its height. -/
theorem setF_room {h : Int} (hh : 4 ≤ h) (notes : List (List Ln)) : ∀ (f : Nat) (body q : List Ln), ∀ p ∈ setF h notes f body q, (p.1.length : Int) + p.2.length ≤ h := by
  intro f
  induction f with
  | zero => intro body q p hp; simp [setF] at hp
  | succ f ih =>
    intro body q p hp
    rw [setF] at hp
    split at hp
    · simp at hp
    · simp only [List.mem_cons] at hp
      rcases hp with rfl | hp
      · obtain ⟨g1, _, g3, _, _⟩ := fillP_ok h notes body q 0 _ (fill_start hh q)
        have h1 := g1.room
        have h2 := g1.pos
        unfold roomP at h1
        simp only [List.length_take]
        omega
      · exact ih _ _ p hp
theorem leftP_bd (notes : List (List Ln)) (body : List Ln) (B : Nat) (hB : ∀ n : Nat, (notes[n]?.getD []).length ≤ B) : leftP notes body [] ≤ body.length + B * (lrefs body).length := by
  unfold leftP
  induction body with
  | nil => simp [lrefs]
  | cons x r ih =>
    have h1 : (notesOf notes x).length ≤ B * x.nts.length := by
      unfold notesOf
      induction x.nts with
      | nil => simp
      | cons n l ihl => rw [List.flatMap_cons, List.length_append, List.length_cons, Nat.mul_add]; have := hB n.toNat; omega
    have e : lrefs (x :: r) = x.nts ++ lrefs r := rfl
    rw [e, List.length_append, Nat.mul_add]
    simp only [List.map_cons, List.sum_cons, List.length_cons, List.length_nil, Nat.zero_add] at ih ⊢
    omega
/-- The pages of a generated text. -/
theorem textP_ok {t : Tx} (ht : OkT t) {m h : Int} (hm : 500 ≤ m) (hm2 : m ≤ 2000) (hh : 4 ≤ h) (hh2 : h ≤ 100) :
    (textP t m h).1 = 0 ∧ (textP t m h).2 ≠ [] ∧ (textP t m h).2.length ≤ 200 ∧ ∀ p ∈ (textP t m h).2, (p.1.length : Int) + p.2.length ≤ h := by
  have hl : linesT t m = (0, (setsP m t.paras 0).flatten, setsP m t.notes (t.paras.map List.length).sum) := by
    unfold linesT
    rw [if_neg (by rw [chkT_ok ht]; simp), if_neg (by omega)]
  obtain ⟨body, hb⟩ : ∃ b, b = (setsP m t.paras 0).flatten := ⟨_, rfl⟩
  obtain ⟨notes, hn⟩ : ∃ b, b = setsP m t.notes (t.paras.map List.length).sum := ⟨_, rfl⟩
  rw [← hb, ← hn] at hl
  have hnl : notes.length = t.notes.length := by rw [hn]; exact setsP_lenB _ _ _
  have hr : lrefs body = (List.range t.notes.length).map fun (i : Nat) => (i : Int) := by
    rw [hb, setsP_nts hm, ht.rf, upto, List.map_map]
    exact List.map_congr_left fun i _ => by simp only [Function.comp]; omega
  have hrl : (lrefs body).length = t.notes.length := by rw [hr]; simp
  have hnm : ∀ l ∈ notes, 1 ≤ l.length ∧ l.length ≤ 12 := fun l hl => by
    rw [hn] at hl
    obtain ⟨p, hp, f, rfl⟩ := setsP_mem _ _ l hl
    have h1 := setP_len hm p f
    have h2 := ht.len p hp
    exact ⟨h1.2 (fun e => by rw [e] at h2; simp at h2), by omega⟩
  have hc : chkPg body notes h = 0 := by
    unfold chkPg
    have h1 : notes.any (fun l => decide (l.length = 0)) = false := by
      rw [List.any_eq_false]; intro l hl hd; have := hnm l hl; simp only [decide_eq_true_eq] at hd; omega
    rw [if_neg (by omega), if_neg (by rw [h1]; simp)]
    have := ordL_ok notes.length body 0 (by rw [hrl, hr]; exact List.map_congr_left fun i _ => by simp) (by rw [hrl]; omega)
    rw [show ((0 : Nat) : Int) = 0 by rfl] at this
    rw [this, hrl]
    simp only
    rw [if_neg (by omega)]
  have hbl : body.length ≤ 160 := by
    have := flat_len hm 40 t.paras 0 fun p hp => (ht.par.len p hp).2
    have := ht.np
    rw [hb]; omega
  have hb0 : body ≠ [] := by
    rw [hb]
    have := ht.np
    cases hp : t.paras with
    | nil => rw [hp] at this; simp at this
    | cons p ps =>
      have h2 := ht.par.len p (by rw [hp]; simp)
      have h3 := (setP_len hm p 0).2 (fun e => by rw [e] at h2; simp at h2)
      simp only [setsP, List.flatten_cons]
      intro e
      rw [List.append_eq_nil_iff] at e
      rw [e.1] at h3
      simp at h3
  have hleft : leftP notes body [] ≤ 200 := by
    have := leftP_bd notes body 12 fun n => by
      cases hx : notes[n]? with
      | none => simp
      | some l => simpa using (hnm l (List.mem_of_getElem? hx)).2
    rw [hrl] at this
    have := ht.nn
    omega
  have e : textP t m h = (0, setF h notes (leftP notes body []) body []) := by
    unfold textP
    rw [if_neg (by rw [hl]; simp), hl]
    simp only [setPg]
    rw [if_neg (by rw [hc]; simp)]
  rw [e]
  refine ⟨rfl, ?_, ?_, fun p hp => setF_room hh notes _ _ _ p hp⟩
  · simp only
    obtain ⟨h1, _⟩ := setF_step hh notes body [] (fun hx => hb0 hx.1) _ rfl
    rw [h1]
    simp
  · have := setF_len h notes (leftP notes body []) body []
    simp only; omega
end Go.Proofs.YtdbnddmncbjobaaGreatDoor

/- What the lines of a generated text are, for the walk of page.Text. -/
namespace Go.Proofs.YtdbnddmncbjobaaGreatDoor

theorem gapsP_le (ws : List Int) (m : Int) (b : Bool) : (gapsP ws m b).length ≤ ws.length := by
  unfold gapsP
  cases b
  · rw [if_neg (by simp), gapsGo_len]; omega
  · rw [if_pos rfl, List.length_replicate]; omega
theorem linesGo_small (m : Int) (B : Nat) : ∀ (ls : List Nat) (ws : List Wd) (first : Int), (ws.length ≤ B) → ∀ x ∈ linesGo m ws ls first, x.gaps.length ≤ B ∧ x.nts.length ≤ B := by
  intro ls
  induction ls with
  | nil => intro ws first _ x hx; simp [linesGo] at hx
  | cons l ls ih =>
    intro ws first hB x hx
    simp only [linesGo] at hx
    rcases List.mem_cons.1 hx with rfl | hx
    · have h1 := gapsP_le ((ws.take l).map fun w => wid w.s) m ls.isEmpty
      rw [List.length_map, List.length_take] at h1
      have h2 : ((ws.take l).filterMap fun w => if w.nt ≠ 0 then some (w.nt - 1) else none).length ≤ (ws.take l).length := List.length_filterMap_le ..
      rw [List.length_take] at h2
      simp only
      omega
    · exact ih _ _ (by rw [List.length_drop]; omega) x hx
theorem setsP_small (m : Int) (B : Nat) (ps : List (List Wd)) (first : Int) (h : ∀ p ∈ ps, p.length ≤ B) : ∀ l ∈ setsP m ps first, ∀ x ∈ l, x.gaps.length ≤ B ∧ x.nts.length ≤ B := fun l hl x hx => by
  obtain ⟨p, hp, f, rfl⟩ := setsP_mem _ _ l hl
  exact linesGo_small m B _ _ _ (h p hp) x hx
/-- The lines of a generated text. -/
structure TxP (t : Tx) (m h : Int) : Prop where
  chk : chkT t = 0
  pg : chkPg (linesT t m).2.1 (linesT t m).2.2 h = 0
  ne : (linesT t m).2.1 ≠ []
  left : leftP (linesT t m).2.2 (linesT t m).2.1 [] ≤ 200
  lnb : LnsB (linesT t m).2.1
  lnn : ∀ l ∈ (linesT t m).2.2, LnsB l
  nts : NtsOk (linesT t m).2.2.length (linesT t m).2.1
  nn : (linesT t m).2.2.length ≤ 3
  eq : (textP t m h).2 = (setPg (linesT t m).2.1 (linesT t m).2.2 h).2
theorem txP_of {t : Tx} (ht : OkT t) {m h : Int} (hm : 500 ≤ m) (hm2 : m ≤ 2000) (hh : 4 ≤ h) (hh2 : h ≤ 100) : TxP t m h := by
  have hl : linesT t m = (0, (setsP m t.paras 0).flatten, setsP m t.notes (t.paras.map List.length).sum) := by
    unfold linesT
    rw [if_neg (by rw [chkT_ok ht]; simp), if_neg (by omega)]
  obtain ⟨body, hb⟩ : ∃ b, b = (setsP m t.paras 0).flatten := ⟨_, rfl⟩
  obtain ⟨notes, hn⟩ : ∃ b, b = setsP m t.notes (t.paras.map List.length).sum := ⟨_, rfl⟩
  rw [← hb, ← hn] at hl
  have hnl : notes.length = t.notes.length := by rw [hn]; exact setsP_lenB _ _ _
  have hr : lrefs body = (List.range t.notes.length).map fun (i : Nat) => (i : Int) := by
    rw [hb, setsP_nts hm, ht.rf, upto, List.map_map]
    exact List.map_congr_left fun i _ => by simp only [Function.comp]; omega
  have hrl : (lrefs body).length = t.notes.length := by rw [hr]; simp
  have hnm : ∀ l ∈ notes, 1 ≤ l.length ∧ l.length ≤ 12 := fun l hl => by
    rw [hn] at hl
    obtain ⟨p, hp, f, rfl⟩ := setsP_mem _ _ l hl
    have h1 := setP_len hm p f
    have h2 := ht.len p hp
    exact ⟨h1.2 (fun e => by rw [e] at h2; simp at h2), by omega⟩
  have hc : chkPg body notes h = 0 := by
    unfold chkPg
    have h1 : notes.any (fun l => decide (l.length = 0)) = false := by
      rw [List.any_eq_false]; intro l hl hd; have := hnm l hl; simp only [decide_eq_true_eq] at hd; omega
    rw [if_neg (by omega), if_neg (by rw [h1]; simp)]
    have := ordL_ok notes.length body 0 (by rw [hrl, hr]; exact List.map_congr_left fun i _ => by simp) (by rw [hrl]; omega)
    rw [show ((0 : Nat) : Int) = 0 by rfl] at this
    rw [this, hrl]
    simp only
    rw [if_neg (by omega)]
  have hbl : body.length ≤ 160 := by
    have := flat_len hm 40 t.paras 0 fun p hp => (ht.par.len p hp).2
    have := ht.np
    rw [hb]; omega
  have hb0 : body ≠ [] := by
    rw [hb]
    have := ht.np
    cases hp : t.paras with
    | nil => rw [hp] at this; simp at this
    | cons p ps =>
      have h2 := ht.par.len p (by rw [hp]; simp)
      have h3 := (setP_len hm p 0).2 (fun e => by rw [e] at h2; simp at h2)
      simp only [setsP, List.flatten_cons]
      intro e
      rw [List.append_eq_nil_iff] at e
      rw [e.1] at h3
      simp at h3
  have hleft : leftP notes body [] ≤ 200 := by
    have := leftP_bd notes body 12 fun n => by
      cases hx : notes[n]? with
      | none => simp
      | some l => simpa using (hnm l (List.mem_of_getElem? hx)).2
    rw [hrl] at this
    have := ht.nn
    omega
  refine ⟨chkT_ok ht, ?_, ?_, ?_, ?_, ?_, ?_, ?_, ?_⟩ <;> rw [hl]
  · exact hc
  · exact hb0
  · exact hleft
  · intro x hx
    rw [hb] at hx
    obtain ⟨l, hl1, hx1⟩ := List.mem_flatten.1 hx
    have := setsP_small m 40 t.paras 0 (fun p hp => (ht.par.len p hp).2) l hl1 x hx1
    omega
  · intro l hl1 x hx
    rw [hn] at hl1
    have := setsP_small m 12 t.notes _ (fun p hp => (ht.len p hp).2) l hl1 x hx
    omega
  · intro x hx k hk
    have : k ∈ lrefs body := List.mem_flatMap.2 ⟨x, hx, hk⟩
    rw [hr] at this
    obtain ⟨i, hi, rfl⟩ := List.mem_map.1 this
    have := List.mem_range.1 hi
    simp only
    omega
  · have := ht.nn
    simp only; omega
  · unfold textP
    rw [if_neg (by rw [hl]; simp), hl]
end Go.Proofs.YtdbnddmncbjobaaGreatDoor

/- page.Text: walked. -/
namespace Go.Proofs.YtdbnddmncbjobaaGreatDoor
open Go Go.RowKit

set_option maxHeartbeats 4000000 in
set_option maxRecDepth 100000 in
theorem ptext_any (P : Nat → Prop) (w : World) (t : Tx) (m h : Int) (A A' : Option Addr) (n n' c c' : Nat) (h1 : kWs.row w P A n t.paras) (h2 : kWs.row w P A' n' t.notes) (hT : TxP t m h) (hm0 : 500 ≤ m) (hm : m ≤ 2000) (hL : EnvW w) :
    Calls Tryz.prog 127 #[.agg #[.slice A n c, .slice A' n' c'], .int .i64 m, .int .i64 h] w (fun e w' => ∃ A1 c1, e = .returned (.tuple #[.slice A1 (textP t m h).2.length c1, .int .i64 0]) ∧
      kPg.own 84 w' w.heap.size (fun j => w.heap.size ≤ j) (.slice A1 (textP t m h).2.length c1) ((textP t m h).2.map pgOf) ∧ Ext w w') := by
  have HLI := Lib.hid (fun X (hX : Ext w X) => lines_any P X t m A A' n n' c c' (Lay.row_ext h1 hX) (Lay.row_ext h2 hX) hT.chk hm0 hm (hL.ext hX))
  have HT := Lib.hid hT
  obtain ⟨body, hb⟩ : ∃ b, (linesT t m).2.1 = b := ⟨_, rfl⟩
  obtain ⟨notes, hn⟩ : ∃ b, (linesT t m).2.2 = b := ⟨_, rfl⟩
  have HB := Lib.hid hb
  have HN := Lib.hid hn
  simp only [hb, hn] at HLI
  clear h1 h2 hT hL hb hn
  go_enter Tryz.func127, Tryz.ntmps127
  go_wp2_with fail
  refine (HLI.out _ ((Ext.refl w).alloc _)).mono ?_
  rintro e w1 ⟨A1, c1, A2, c2, rfl, ho1, ho2, hx1⟩
  have HX1 := Lib.hid (((Ext.refl w).alloc (.cells #[.slice A n c, .slice A' n' c'] 53)).trans hx1)
  obtain ⟨Ab, cb, e1, hcb, hr1⟩ := own_rowN (Q := fun j => w.heap.size ≤ j) ho1 (fun j hj _ => by rw [World.size_alloc] at hj; omega) (fun j hj _ => by rw [World.size_alloc] at hj; omega)
  obtain ⟨An, cn, e2, _, hr2⟩ := own_rowN (Q := fun j => w.heap.size ≤ j) ho2 (fun j hj _ => by rw [World.size_alloc] at hj; omega) (fun j hj _ => by rw [World.size_alloc] at hj; omega)
  have e1a : A1 = Ab := by injection e1
  have e1c : c1 = cb := by injection e1
  have e2a : A2 = An := by injection e2
  rw [← e1a] at hr1
  rw [← e2a] at hr2
  rw [← e1c] at hcb
  clear e1 e2 e1a e1c e2a ho1 ho2
  have hbl : 0 < body.length := List.length_pos_iff.2 (by rw [← HB.out]; exact HT.out.ne)
  obtain ⟨x0, hx0⟩ : ∃ x, body[0]? = some x := ⟨_, List.getElem?_eq_getElem hbl⟩
  obtain ⟨b0, o0, cs, rfl, _, _, _, _⟩ := Lay.row_at hr1 hx0
  have HPS := Lib.hid (pset_any (fun j => w.heap.size ≤ j) w1 b0 o0 body.length c1 notes.length c2 200 A2 body notes h hr1 hcb hr2 (by have := HT.out.pg; rwa [HB.out, HN.out] at this) (by have := HT.out.left; rwa [HB.out, HN.out] at this) (by omega) (by have := HT.out.nn; rw [HN.out] at this; omega) (by have := HT.out.lnb; rwa [HB.out] at this) (by have := HT.out.lnn; rwa [HN.out] at this) (by have := HT.out.nts; rwa [HB.out, HN.out] at this))
  have HEQ := Lib.hid (show (setPg body notes h).2 = (textP t m h).2 by rw [HT.out.eq, HB.out, HN.out])
  rw [HEQ.out] at HPS
  clear hr1 hr2 hx0 hx1
  go_wp2_with fail
  refine HPS.out.mono ?_
  rintro e w2 ⟨A3, c3, rfl, ho3, hx3⟩
  have HO3 := Lib.hid ho3
  have HX3 := Lib.hid (HX1.out.trans hx3)
  clear ho3 hx3
  have hw1 := HX1.out.lt
  go_wp2_with fail
  go_ret2
  exact ⟨A3, c3, rfl, own_low HO3.out hw1, HX3.out⟩
end Go.Proofs.YtdbnddmncbjobaaGreatDoor

/- A range over a function whose values lie in memory: the law of the statement, with a word about the values that come. -/
namespace Go.Proofs.YtdbnddmncbjobaaGreatDoor
open Go Go.RowKit

/-- The blocks of Q' are those of Q, new ones, and the block b. -/
def Grow (b : Nat) (Q Q' : Nat → Prop) (A : World) : Prop := ∀ j, Q' j → Q j ∨ A.heap.size ≤ j ∨ j = b
/-- What holds abides a step of the iterator's, which turns its own block b alone. -/
def AbMv {β : Type} (b : Nat) (J : β → (Nat → Prop) → World → Prop) : Prop := ∀ s Q Q' A B, J s Q A → Mv b A B → Grow b Q Q' A → J s Q' B
/-- An iterator over values that lie in memory: those that come lie so (Rp) in blocks of a set Q, which the rounds leave as they are. -/
def RSeq {α : Type} (F : Fence) (n : Nat) (P : Program) (g : Nat) (lb : Array Value) (encs : α → Array Value) (Rp : (Nat → Prop) → α → World → Prop) (S Sp : List α → Prop) (Q0 : Nat → Prop) (w : World) : Prop :=
  ∀ (l : Nat) (J Jx : List α → (Nat → Prop) → World → Prop) (W : World), w.heap.size ≤ W.heap.size → (∀ j, j < w.heap.size → W.heap[j]? = w.heap[j]?) → Ext w W → AbMv W.heap.size J → AbMv W.heap.size Jx →
    (∀ pre x Q W1, J pre Q W1 → Rp (fun j => (Q j ∧ j ≠ W.heap.size) ∧ w.heap.size ≤ j) x W1 → (∀ j, Q j → j < W1.heap.size) → W.heap.size < W1.heap.size → Sp (pre ++ [x]) → YieldAt F (n - 1) P l (encs x) W1 fun e W' =>
      (e = .returned (.bool true) ∧ J (pre ++ [x]) Q W' ∧ ∀ j, Q j → W'.heap[j]? = W1.heap[j]?) ∨ (e = .returned (.bool false) ∧ Jx (pre ++ [x]) Q W')) →
    J [] Q0 W →
    CallsIn F n P g (#[.func (.yield l) #[] #[]] ++ lb) W fun e W' => (∃ v, e = .returned v) ∧ ((∃ xs Q, S xs ∧ J xs Q W') ∨ (∃ pre Q, Sp pre ∧ Jx pre Q W'))
/-- How the body of a round may be left: the two blocks of the loop's book-keeping lie as they lay. -/
def rgPost {α : Type} (l D : Nat) (Q : Nat → Prop) (I : List α → (Nat → Prop) → World → Prop) (Ix : Code → List α → (Nat → Prop) → World → Prop) (xs : List α) (W : World) : Exit → Act → World → Prop
  | .normal, _, W' => (W'.heap[l]? = W.heap[l]? ∧ W'.heap[D]? = W.heap[D]?) ∧ (∀ j, Q j → W'.heap[j]? = W.heap[j]?) ∧ I xs Q W'
  | .ret, _, W' => (W'.heap[l]? = W.heap[l]? ∧ W'.heap[D]? = W.heap[D]?) ∧ Ix .ret xs Q W'
  | .exit id, _, W' => (W'.heap[l]? = W.heap[l]? ∧ W'.heap[D]? = W.heap[D]?) ∧ Ix (.exit id) xs Q W'
  | .goto t, _, W' => (W'.heap[l]? = W.heap[l]? ∧ W'.heap[D]? = W.heap[D]?) ∧ Ix (.goto t) xs Q W'
  | .panic _, _, _ => False
  | .outgrown, _, _ => False
theorem Mv.blk {b k : Nat} {A B : World} {o : Obj} (h : Mv b A B) (hk : k ≠ b) (ho : A.heap[k]? = some o) : B.heap[k]? = some o := (h.keep k hk (Array.getElem?_eq_some_iff.1 ho).1).trans ho
end Go.Proofs.YtdbnddmncbjobaaGreatDoor

/- book.all: the iterator over a book's pages: its make, and what it owes. -/
namespace Go.Proofs.YtdbnddmncbjobaaGreatDoor
open Go Go.RowKit

/-- A page with its two rows' places. -/
abbrev PgV := Pg × (Option Addr × Nat × Nat) × (Option Addr × Nat × Nat)
def pgEnc (x : PgV) : Array Value := #[.agg #[.int .i64 x.1.num, .int .i64 x.1.suf, .int .i64 x.1.ent, .int .i64 x.1.ver, .slice x.2.1.1 x.2.1.2.1 x.2.1.2.2, .slice x.2.2.1 x.2.2.2.1 x.2.2.2.2]]
/-- Such a page lies in blocks of Q. -/
def pgRp (Q : Nat → Prop) (x : PgV) (W : World) : Prop := x.2.1.2.1 ≤ x.2.1.2.2 ∧ x.2.2.2.1 ≤ x.2.2.2.2 ∧ kLn.row W Q x.2.1.1 x.2.1.2.1 x.1.body ∧ kLn.row W Q x.2.2.1 x.2.2.2.1 x.1.nts ∧ x.1.body.length ≤ 1000 ∧ x.1.nts.length ≤ 1000
set_option maxHeartbeats 2000000 in
set_option maxRecDepth 100000 in
theorem all_any (w : World) (m h : Int) (A : Option Addr) (n c : Nat) :
    Calls Tryz.prog 73 #[.agg #[.int .i64 m, .int .i64 h, .slice A n c]] w (fun e w' => e = .returned (.func (.func 126) #[] #[.pointer (some ⟨w.heap.size, 0, none⟩)]) ∧ w' = w.alloc (.cells #[.int .i64 m, .int .i64 h, .slice A n c] 27)) := by
  go_enter Tryz.func73, Tryz.ntmps73
  go_wp2_with fail
  go_ret
  exact ⟨rfl, rfl⟩
/-- A round that leaves the blocks of Q, the last block of all being one: the heap has not shrunk. -/
theorem kept_size {Q : Nat → Prop} {W W' : World} (h : ∀ j, Q j → W'.heap[j]? = W.heap[j]?) (hl : Q (W.heap.size - 1)) (h0 : 0 < W.heap.size) : W.heap.size ≤ W'.heap.size := by
  have h1 := (h _ hl).trans (Array.getElem?_eq_getElem (xs := W.heap) (i := W.heap.size - 1) (by omega))
  have := (Array.getElem?_eq_some_iff.1 h1).1
  omega
/-- The table of widths lies in block 4 alone. -/
theorem EnvW.blk {w W : World} (h : EnvW w) (hb : W.heap[4]? = w.heap[4]?) : EnvW W := by
  intro W' hx
  have h1 := h w (Ext.refl w)
  have hg : Tryz.prog.globalNamed "rollbook/glyph.widths" = some 4 := by kernel_rfl
  unfold World.var? at h1 ⊢
  rw [hg] at h1 ⊢
  simp only [Option.bind_some] at h1 ⊢
  have hlt : 4 < W.heap.size := by
    rcases Nat.lt_or_ge 4 W.heap.size with h9 | h9
    · exact h9
    · rw [← hb, Array.getElem?_eq_none h9] at h1
      exact absurd h1 (by simp)
  rw [hx.block 4 hlt, hb]
  exact h1
/-- What holds between two steps of the iterator's: pre has come, in blocks of Q; the book; its own count of the pages in block B. -/
structure ItC (J : List PgV → (Nat → Prop) → World → Prop) (Q0 : Nat → Prop) (B bb : Nat) (b : Bk) (A : Option Addr) (N c : Nat) (num suf : Int) (pre : List PgV) (Q : Nat → Prop) (wr : World) : Prop where
  j : J pre Q wr
  q0 : ∀ j, Q0 j → Q j
  qB : Q B
  lt : ∀ j, Q j → j < wr.heap.size
  hb : wr.heap[bb]? = some (.cells #[.int .i64 b.ms, .int .i64 b.ht, .slice A N c] 27 (0, 0))
  hB : wr.heap[B]? = some (.cells #[.int .i64 num, .int .i64 suf] 64 (0, 0))
  row : kSe.row wr Q0 A N b.secs
  env : EnvW wr
/-- The blocks of Q, and those made since. -/
def Qn (Q : Nat → Prop) (W W' : World) : Nat → Prop := fun j => Q j ∨ (W.heap.size ≤ j ∧ j < W'.heap.size)
theorem ItC.ext {J : List PgV → (Nat → Prop) → World → Prop} {Q0 Q : Nat → Prop} {B bb N c : Nat} {b : Bk} {A : Option Addr} {num suf : Int} {pre : List PgV} {wr wr' : World} (hJ : AbMv B J)
    (h : ItC J Q0 B bb b A N c num suf pre Q wr) (hx : Ext wr wr') : ItC J Q0 B bb b A N c num suf pre (Qn Q wr wr') wr' :=
  ⟨hJ _ _ _ _ _ h.j (Mv.of_ext hx) (fun j hj => by rcases hj with hj | hj; exact .inl hj; exact .inr (.inl hj.1)), fun j hj => .inl (h.q0 j hj), .inl h.qB,
    fun j hj => by rcases hj with hj | hj; exact Nat.lt_of_lt_of_le (h.lt j hj) hx.lt; exact hj.2,
    (hx.block _ (lt_of_block h.hb)).trans h.hb, (hx.block _ (lt_of_block h.hB)).trans h.hB, Lay.row_ext h.row hx, h.env.ext hx⟩
theorem ItC.set {J : List PgV → (Nat → Prop) → World → Prop} {Q0 Q : Nat → Prop} {B bb N c : Nat} {b : Bk} {A : Option Addr} {num suf num' suf' : Int} {pre : List PgV} {wr wr' : World} (hJ : AbMv B J)
    (h : ItC J Q0 B bb b A N c num suf pre Q wr) (hm : Mv B wr wr') (hs : wr'.heap.size = wr.heap.size) (hB : wr'.heap[B]? = some (.cells #[.int .i64 num', .int .i64 suf'] 64 (0, 0))) (hbb : bb ≠ B) (h4 : 4 < B) (hQ : ∀ j, Q0 j → j ≠ B) :
    ItC J Q0 B bb b A N c num' suf' pre Q wr' :=
  ⟨hJ _ _ _ _ _ h.j hm (fun j hj => .inl hj), h.q0, h.qB, fun j hj => by rw [hs]; exact h.lt j hj, (hm.keep bb hbb (lt_of_block h.hb)).trans h.hb, hB,
    Lay.row_keep h.row (by omega) fun j hj hl => hm.keep j (hQ j hj) hl, h.env.blk (hm.keep 4 (by omega) (Nat.lt_trans h4 (lt_of_block h.hB)))⟩
/-- Both: new blocks, turned as one likes, and the count. -/
theorem ItC.mv {J : List PgV → (Nat → Prop) → World → Prop} {Q0 Q : Nat → Prop} {B bb N c : Nat} {b : Bk} {A : Option Addr} {num suf num' suf' : Int} {pre : List PgV} {wr wr' : World} (hJ : AbMv B J)
    (h : ItC J Q0 B bb b A N c num suf pre Q wr) (hm : Mv B wr wr') (hs : wr.heap.size ≤ wr'.heap.size) (hB : wr'.heap[B]? = some (.cells #[.int .i64 num', .int .i64 suf'] 64 (0, 0))) (hbb : bb ≠ B) (h4 : 4 < B) (hQ : ∀ j, Q0 j → j ≠ B) :
    ItC J Q0 B bb b A N c num' suf' pre (Qn Q wr wr') wr' :=
  ⟨hJ _ _ _ _ _ h.j hm (fun j hj => by rcases hj with hj | hj; exact .inl hj; exact .inr (.inl hj.1)), fun j hj => .inl (h.q0 j hj), .inl h.qB,
    fun j hj => by rcases hj with hj | hj; exact Nat.lt_of_lt_of_le (h.lt j hj) hs; exact hj.2,
    (hm.keep bb hbb (lt_of_block h.hb)).trans h.hb, hB, Lay.row_keep h.row hs fun j hj hl => hm.keep j (hQ j hj) hl, h.env.blk (hm.keep 4 (by omega) (Nat.lt_trans h4 (lt_of_block h.hB)))⟩
theorem ItC.round {J : List PgV → (Nat → Prop) → World → Prop} {Q0 Q : Nat → Prop} {B bb N c : Nat} {b : Bk} {A : Option Addr} {num suf : Int} {pre pre' : List PgV} {wr wr' : World}
    (h : ItC J Q0 B bb b A N c num suf pre Q wr) (hj : J pre' Q wr') (hk : ∀ j, Q j → wr'.heap[j]? = wr.heap[j]?) (hl : Q (wr.heap.size - 1)) (hbb : Q0 bb) (h4 : Q0 4) :
    ItC J Q0 B bb b A N c num suf pre' Q wr' := by
  have hsz := kept_size hk hl (Nat.lt_of_le_of_lt (Nat.zero_le _) (h.lt _ hl))
  exact ⟨hj, h.q0, h.qB, fun j hq => Nat.lt_of_lt_of_le (h.lt j hq) hsz, (hk bb (h.q0 _ hbb)).trans h.hb, (hk _ h.qB).trans h.hB, Lay.row_keep h.row hsz fun j hq _ => hk j (h.q0 j hq), h.env.blk (hk 4 (h.q0 _ h4))⟩
end Go.Proofs.YtdbnddmncbjobaaGreatDoor

/- The iterator's states, and its step. -/
namespace Go.Proofs.YtdbnddmncbjobaaGreatDoor
open Go Go.RowKit

theorem TxP.len {t : Tx} {m h : Int} (hT : TxP t m h) : (textP t m h).2.length ≤ 200 := by
  rw [hT.eq]
  unfold setPg
  rw [if_neg (by rw [hT.pg]; simp)]
  exact Nat.le_trans (setF_len _ _ _ _ _) hT.left
/-- A book of which every text has pages. -/
structure BkI (b : Bk) : Prop where
  s : BkS b.secs
  m0 : 500 ≤ b.ms
  m1 : b.ms ≤ 2000
  h : 0 ≤ b.ht ∧ b.ht ≤ 100
  vs : ∀ x ∈ b.secs, x.vers.length = x.texts.length
  tx : ∀ x ∈ b.secs, ∀ t ∈ x.texts, TxP t b.ms b.ht
  np : (pagesB b).length ≤ 1000000
  ln : ∀ x ∈ b.secs, ∀ t ∈ x.texts, ∀ p ∈ (textP t b.ms b.ht).2, p.1.length ≤ 1000 ∧ p.2.length ≤ 1000
/-- The counts of the pages that have come. -/
def Bd (num suf : Int) (pre : List PgV) : Prop := 0 ≤ num ∧ num ≤ pre.length ∧ 0 ≤ suf ∧ suf ≤ pre.length
def ItO (J : List PgV → (Nat → Prop) → World → Prop) (Q0 : Nat → Prop) (B bb : Nat) (b : Bk) (A : Option Addr) (N c : Nat) (s16 : Value) (w' : World) : Prop :=
  ∃ (i : Nat) (num suf : Int) (pre : List PgV) (Q : Nat → Prop), i ≤ b.secs.length ∧ s16 = .int .i64 i ∧ ItC J Q0 B bb b A N c num suf pre Q w' ∧ Bd num suf pre ∧ pre.map (·.1) ++ pagesS b.ms b.ht (b.secs.drop i) num = pagesB b
theorem pagesV_nil (m h ent : Int) (vs : List Int) (f : Bool) (n s : Int) : pagesV m h ent vs [] f n s = ([], n) := by cases vs <;> rfl
def ItM (J : List PgV → (Nat → Prop) → World → Prop) (Q0 : Nat → Prop) (B bb : Nat) (b : Bk) (A : Option Addr) (N c : Nat) (b5 : Nat) (x : Se) (A1 : Option Addr) (n1 c1 : Nat) (A2 : Option Addr) (n2 c2 : Nat) (rest : List Se) (s24 : Value) (w' : World) : Prop :=
  ∃ (k : Nat) (num suf : Int) (pre : List PgV) (Q : Nat → Prop), k ≤ x.texts.length ∧ s24 = .int .i64 k ∧ ItC J Q0 B bb b A N c num suf pre Q w' ∧ Bd num suf pre ∧
    Q b5 ∧ w'.heap[b5]? = some (.cells #[.int .i64 x.ent, .bool x.fz, .slice A1 n1 c1, .slice A2 n2 c2] 46 (0, 0)) ∧ kInt.row w' Q0 A1 n1 x.vers ∧ kTx.row w' Q0 A2 n2 x.texts ∧
    pre.map (·.1) ++ ((pagesV b.ms b.ht x.ent (x.vers.drop k) (x.texts.drop k) (decide (k = 0)) num suf).1 ++ pagesS b.ms b.ht rest (pagesV b.ms b.ht x.ent (x.vers.drop k) (x.texts.drop k) (decide (k = 0)) num suf).2) = pagesB b
def ItI (J : List PgV → (Nat → Prop) → World → Prop) (Q0 : Nat → Prop) (B bb : Nat) (b : Bk) (A : Option Addr) (N c : Nat) (b5 : Nat) (x : Se) (A1 : Option Addr) (n1 c1 : Nat) (A2 : Option Addr) (n2 c2 : Nat) (rest : List Se) (k : Nat) (v : Int) (pgs : List (List Ln × List Ln)) (A6 : Option Addr) (S0 : Nat) (s40 : Value) (w' : World) : Prop :=
  ∃ (p : Nat) (num suf : Int) (pre : List PgV) (Q : Nat → Prop), p ≤ pgs.length ∧ s40 = .int .i64 p ∧ ItC J Q0 B bb b A N c num suf pre Q w' ∧ Bd num suf pre ∧
    Q b5 ∧ w'.heap[b5]? = some (.cells #[.int .i64 x.ent, .bool x.fz, .slice A1 n1 c1, .slice A2 n2 c2] 46 (0, 0)) ∧ kInt.row w' Q0 A1 n1 x.vers ∧ kTx.row w' Q0 A2 n2 x.texts ∧ kPg.row w' (fun j => (Q j ∧ j ≠ b5 ∧ j ≠ B) ∧ S0 ≤ j) A6 pgs.length (pgs.map pgOf) ∧
    pre.map (·.1) ++ ((pagesT x.ent v (decide (k = 0)) (pgs.drop p) num suf).1 ++ ((pagesV b.ms b.ht x.ent (x.vers.drop (k + 1)) (x.texts.drop (k + 1)) false (pagesT x.ent v (decide (k = 0)) (pgs.drop p) num suf).2.1 (pagesT x.ent v (decide (k = 0)) (pgs.drop p) num suf).2.2).1 ++ pagesS b.ms b.ht rest (pagesV b.ms b.ht x.ent (x.vers.drop (k + 1)) (x.texts.drop (k + 1)) false (pagesT x.ent v (decide (k = 0)) (pgs.drop p) num suf).2.1 (pagesT x.ent v (decide (k = 0)) (pgs.drop p) num suf).2.2).2)) = pagesB b
/-- The step of a label. -/
def stN (k : Nat) (num : Int) : Int := if k = 0 then num + 1 else num
def stS (k : Nat) (suf : Int) : Int := if k = 0 then suf else suf + 1
theorem pagesT_step (ent v : Int) (k : Nat) {pgs : List (List Ln × List Ln)} {p : Nat} {pg : List Ln × List Ln} (hp : pgs[p]? = some pg) (n s : Int) :
    pagesT ent v (decide (k = 0)) (pgs.drop p) n s = (⟨stN k n, stS k s, ent, v, pg.1, pg.2⟩ :: (pagesT ent v (decide (k = 0)) (pgs.drop (p + 1)) (stN k n) (stS k s)).1, (pagesT ent v (decide (k = 0)) (pgs.drop (p + 1)) (stN k n) (stS k s)).2) := by
  rw [List.drop_eq_getElem_cons (List.getElem?_eq_some_iff.1 hp).1, (List.getElem?_eq_some_iff.1 hp).2]
  unfold stN stS
  by_cases hk : k = 0 <;> simp [pagesT, hk]
theorem itI_next {J : List PgV → (Nat → Prop) → World → Prop} {Q0 Q : Nat → Prop} {B bb N c b5 n1 c1 n2 c2 k p S0 : Nat} {b : Bk} {A A1 A2 A6 : Option Addr} {num suf v : Int} {pre : List PgV} {x : Se} {rest : List Se} {pgs : List (List Ln × List Ln)} {pg : List Ln × List Ln} {wi w9 W2 : World} {pv : PgV}
    (hpi : pgs[p]? = some pg) (hbb : Q0 bb) (h4 : Q0 4) (hC : ItC J Q0 B bb b A N c (stN k num) (stS k suf) pre (Qn Q wi w9) w9) (hl : Qn Q wi w9 (w9.heap.size - 1)) (hBd : Bd num suf pre) (hq5 : Q b5)
    (hB5 : w9.heap[b5]? = some (.cells #[.int .i64 x.ent, .bool x.fz, .slice A1 n1 c1, .slice A2 n2 c2] 46 (0, 0))) (hR1 : kInt.row w9 Q0 A1 n1 x.vers) (hR2 : kTx.row w9 Q0 A2 n2 x.texts) (hRP : kPg.row w9 (fun j => (Q j ∧ j ≠ b5 ∧ j ≠ B) ∧ S0 ≤ j) A6 pgs.length (pgs.map pgOf))
    (hS : pre.map (·.1) ++ ((pagesT x.ent v (decide (k = 0)) (pgs.drop p) num suf).1 ++ ((pagesV b.ms b.ht x.ent (x.vers.drop (k + 1)) (x.texts.drop (k + 1)) false (pagesT x.ent v (decide (k = 0)) (pgs.drop p) num suf).2.1 (pagesT x.ent v (decide (k = 0)) (pgs.drop p) num suf).2.2).1 ++ pagesS b.ms b.ht rest (pagesV b.ms b.ht x.ent (x.vers.drop (k + 1)) (x.texts.drop (k + 1)) false (pagesT x.ent v (decide (k = 0)) (pgs.drop p) num suf).2.1 (pagesT x.ent v (decide (k = 0)) (pgs.drop p) num suf).2.2).2)) = pagesB b)
    (hpv : pv.1 = ⟨stN k num, stS k suf, x.ent, v, pg.1, pg.2⟩) (hJ : J (pre ++ [pv]) (Qn Q wi w9) W2) (hk : ∀ j, Qn Q wi w9 j → W2.heap[j]? = w9.heap[j]?) :
    ItI J Q0 B bb b A N c b5 x A1 n1 c1 A2 n2 c2 rest k v pgs A6 S0 (.int .i64 ((p : Int) + 1)) W2 := by
  have hC2 := hC.round hJ hk hl hbb h4
  have hsz := kept_size hk hl (Nat.lt_of_le_of_lt (Nat.zero_le _) (hC.lt _ hl))
  obtain ⟨h0, h1, h2, h3⟩ := hBd
  refine ⟨p + 1, stN k num, stS k suf, pre ++ [pv], Qn Q wi w9, (List.getElem?_eq_some_iff.1 hpi).1, by simp, hC2, ⟨?_, ?_, ?_, ?_⟩, .inl hq5, (hk b5 (.inl hq5)).trans hB5, Lay.row_keep hR1 hsz fun j hj _ => hk j (hC.q0 j hj), Lay.row_keep hR2 hsz fun j hj _ => hk j (hC.q0 j hj), ?_, ?_⟩
  · unfold stN; split <;> omega
  · unfold stN; simp only [List.length_append, List.length_cons, List.length_nil]; split <;> omega
  · unfold stS; split <;> omega
  · unfold stS; simp only [List.length_append, List.length_cons, List.length_nil]; split <;> omega
  · exact Lay.row_mono (Lay.row_keep hRP hsz fun j hj _ => hk j (.inl hj.1.1)) fun j hj _ => ⟨⟨.inl hj.1.1, hj.1.2⟩, hj.2⟩
  · rw [pagesT_step x.ent v k hpi] at hS
    rw [← hS, List.map_append, List.map_cons, List.map_nil, hpv, List.append_assoc]
    rfl
theorem pre_cons {γ : Type} (X : List γ) (p : γ) (R Y : List γ) : X ++ [p] <+: X ++ ((p :: R) ++ Y) := ⟨R ++ Y, by simp⟩
theorem itI_stop {b : Bk} {k p : Nat} {num suf v : Int} {pre : List PgV} {x : Se} {rest : List Se} {pgs : List (List Ln × List Ln)} {pg : List Ln × List Ln} {pv : PgV} (hpi : pgs[p]? = some pg)
    (hS : pre.map (·.1) ++ ((pagesT x.ent v (decide (k = 0)) (pgs.drop p) num suf).1 ++ ((pagesV b.ms b.ht x.ent (x.vers.drop (k + 1)) (x.texts.drop (k + 1)) false (pagesT x.ent v (decide (k = 0)) (pgs.drop p) num suf).2.1 (pagesT x.ent v (decide (k = 0)) (pgs.drop p) num suf).2.2).1 ++ pagesS b.ms b.ht rest (pagesV b.ms b.ht x.ent (x.vers.drop (k + 1)) (x.texts.drop (k + 1)) false (pagesT x.ent v (decide (k = 0)) (pgs.drop p) num suf).2.1 (pagesT x.ent v (decide (k = 0)) (pgs.drop p) num suf).2.2).2)) = pagesB b)
    (hpv : pv.1 = ⟨stN k num, stS k suf, x.ent, v, pg.1, pg.2⟩) : (pre ++ [pv]).map (·.1) <+: pagesB b := by
  rw [pagesT_step x.ent v k hpi] at hS
  rw [← hS, List.map_append, List.map_cons, List.map_nil, hpv]
  exact pre_cons _ _ _ _
end Go.Proofs.YtdbnddmncbjobaaGreatDoor

/- Labels: they are different; the place of a word leads to its page. -/
namespace Go.Proofs.YtdbnddmncbjobaaGreatDoor

/-- a before b. -/
def lblt (a b : Pg) : Prop := a.num < b.num ∨ a.num = b.num ∧ a.suf < b.suf
theorem pagesT_one (ent ver : Int) : ∀ (ps : List (List Ln × List Ln)) (n s : Int), (pagesT ent ver true ps n s).2 = (n + ps.length, s) ∧ (pagesT ent ver true ps n s).1.length = ps.length ∧
    (∀ p ∈ (pagesT ent ver true ps n s).1, n < p.num ∧ p.num ≤ n + ps.length ∧ p.suf = s ∧ p.ent = ent ∧ p.ver = ver) ∧ (pagesT ent ver true ps n s).1.Pairwise lblt := by
  intro ps
  induction ps with
  | nil => intro n s; simp [pagesT]
  | cons p ps ih =>
    intro n s
    simp only [pagesT, if_true]
    obtain ⟨h1, h2, h3, h4⟩ := ih (n + 1) s
    refine ⟨?_, by simp [h2], fun x hx => ?_, ?_⟩
    · rw [h1]; simp only [List.length_cons]; congr 1; omega
    · rcases List.mem_cons.1 hx with rfl | hx
      · simp; omega
      · have := h3 x hx; simp only [List.length_cons]; omega
    · rw [List.pairwise_cons]
      exact ⟨fun x hx => .inl (by have := (h3 x hx).1; simp only; omega), h4⟩
theorem pagesT_more (ent ver : Int) : ∀ (ps : List (List Ln × List Ln)) (n s : Int), (pagesT ent ver false ps n s).2 = (n, s + ps.length) ∧ (pagesT ent ver false ps n s).1.length = ps.length ∧
    (∀ p ∈ (pagesT ent ver false ps n s).1, p.num = n ∧ s < p.suf ∧ p.suf ≤ s + ps.length ∧ p.ent = ent ∧ p.ver = ver) ∧ (pagesT ent ver false ps n s).1.Pairwise lblt := by
  intro ps
  induction ps with
  | nil => intro n s; simp [pagesT]
  | cons p ps ih =>
    intro n s
    simp only [pagesT, Bool.false_eq_true, if_false]
    obtain ⟨h1, h2, h3, h4⟩ := ih n (s + 1)
    refine ⟨?_, by simp [h2], fun x hx => ?_, ?_⟩
    · rw [h1]; simp only [List.length_cons]; congr 1; omega
    · rcases List.mem_cons.1 hx with rfl | hx
      · simp; omega
      · have := h3 x hx; simp only [List.length_cons]; omega
    · rw [List.pairwise_cons]
      exact ⟨fun x hx => .inr (by have := h3 x hx; simp only; omega), h4⟩
/-- The texts of a section, all with so many pages at most. -/
def PgsOk (m h : Int) (K : Nat) (ts : List Tx) : Prop := ∀ t ∈ ts, (textP t m h).2 ≠ [] ∧ (textP t m h).2.length ≤ K
theorem pagesV_more (m h ent : Int) (K : Nat) : ∀ (vs : List Int) (ts : List Tx) (n s : Int), PgsOk m h K ts →
    (pagesV m h ent vs ts false n s).2 = n ∧ (∀ p ∈ (pagesV m h ent vs ts false n s).1, p.num = n ∧ s < p.suf ∧ p.suf ≤ s + (K * ts.length : Nat)) ∧ (pagesV m h ent vs ts false n s).1.Pairwise lblt := by
  intro vs
  induction vs with
  | nil => intro ts n s _; simp [pagesV]
  | cons v vs ih =>
    intro ts n s hk
    cases ts with
    | nil => simp [pagesV]
    | cons t ts =>
      simp only [pagesV]
      obtain ⟨h1, _, h3, h4⟩ := pagesT_more ent v (textP t m h).2 n s
      rw [h1]
      have hK := (hk t (by simp)).2
      obtain ⟨g1, g2, g3⟩ := ih ts n (s + (textP t m h).2.length) fun x hx => hk x (by simp [hx])
      refine ⟨g1, fun p hp => ?_, ?_⟩
      · simp only [List.length_cons, Nat.mul_add, Nat.mul_one]
        rcases List.mem_append.1 hp with hp | hp
        · have := h3 p hp; omega
        · have := g2 p hp; omega
      · rw [List.pairwise_append]
        exact ⟨h4, g3, fun a ha b hb => .inr (by have := h3 a ha; have := g2 b hb; omega)⟩
theorem pagesV_one (m h ent : Int) (K : Nat) : ∀ (vs : List Int) (ts : List Tx) (n : Int), PgsOk m h K ts →
    n ≤ (pagesV m h ent vs ts true n 0).2 ∧ (pagesV m h ent vs ts true n 0).2 ≤ n + K ∧ (∀ p ∈ (pagesV m h ent vs ts true n 0).1, n < p.num ∧ p.num ≤ (pagesV m h ent vs ts true n 0).2 ∧ 0 ≤ p.suf ∧ p.suf ≤ (K * ts.length : Nat)) ∧ (pagesV m h ent vs ts true n 0).1.Pairwise lblt := by
  intro vs ts n hk
  cases vs with
  | nil => simp [pagesV]; omega
  | cons v vs =>
    cases ts with
    | nil => simp [pagesV]; omega
    | cons t ts =>
      simp only [pagesV]
      obtain ⟨h1, _, h3, h4⟩ := pagesT_one ent v (textP t m h).2 n 0
      rw [h1]
      have hK := hk t (by simp)
      have hp : 1 ≤ (textP t m h).2.length := List.length_pos_iff.2 hK.1
      obtain ⟨g1, g2, g3⟩ := pagesV_more m h ent K vs ts (n + (textP t m h).2.length) 0 fun x hx => hk x (by simp [hx])
      rw [g1]
      refine ⟨by omega, by omega, fun p hp => ?_, ?_⟩
      · simp only [List.length_cons, Nat.mul_add, Nat.mul_one]
        rcases List.mem_append.1 hp with hp | hp
        · have := h3 p hp; omega
        · have := g2 p hp; omega
      · rw [List.pairwise_append]
        exact ⟨h4, g3, fun a ha b hb => by
          have h5 := h3 a ha; have h6 := g2 b hb
          by_cases h7 : a.num = n + (textP t m h).2.length
          · exact .inr ⟨by omega, by omega⟩
          · exact .inl (by omega)⟩
theorem pagesS_ok (m h : Int) (K V : Nat) : ∀ (l : List Se) (n : Int), (∀ x ∈ l, PgsOk m h K x.texts ∧ x.texts.length ≤ V) →
    (∀ p ∈ pagesS m h l n, n < p.num ∧ p.num ≤ n + (K * l.length : Nat) ∧ 0 ≤ p.suf ∧ p.suf ≤ (K * V : Nat)) ∧ (pagesS m h l n).Pairwise lblt := by
  intro l
  induction l with
  | nil => intro n _; simp [pagesS]
  | cons x l ih =>
    intro n hk
    simp only [pagesS]
    obtain ⟨h1, h2, h3, h4⟩ := pagesV_one m h x.ent K x.vers x.texts n (hk x (by simp)).1
    obtain ⟨g1, g2⟩ := ih (pagesV m h x.ent x.vers x.texts true n 0).2 fun y hy => hk y (by simp [hy])
    have hV : K * x.texts.length ≤ K * V := Nat.mul_le_mul_left _ (hk x (by simp)).2
    refine ⟨fun p hp => ?_, ?_⟩
    · simp only [List.length_cons, Nat.mul_add, Nat.mul_one]
      rcases List.mem_append.1 hp with hp | hp
      · have := h3 p hp; omega
      · have := g1 p hp; omega
    · rw [List.pairwise_append]
      exact ⟨h4, g2, fun a ha b hb => .inl (by have := h3 a ha; have := g1 b hb; omega)⟩
/-- In a list whose labels grow, the page with the label of a page is that page. -/
theorem find_lab : ∀ (l : List Pg), l.Pairwise lblt → ∀ p ∈ l, l.find? (fun q => decide (q.num = p.num ∧ q.suf = p.suf)) = some p := by
  intro l
  induction l with
  | nil => intro _ p hp; simp at hp
  | cons a l ih =>
    intro hl p hp
    rw [List.pairwise_cons] at hl
    rcases List.mem_cons.1 hp with rfl | hp
    · rw [List.find?_cons_of_pos (by simp)]
    · rw [List.find?_cons_of_neg (by
        have := hl.1 p hp
        unfold lblt at this
        simp only [decide_eq_true_eq]; omega)]
      exact ih hl.2 p hp
end Go.Proofs.YtdbnddmncbjobaaGreatDoor

/- What is added, corrected, struck and frozen leaves the pages that were there. -/
namespace Go.Proofs.YtdbnddmncbjobaaGreatDoor

/-- A book whose labels are different and whose entries are. -/
structure OkK (b : Bk) : Prop where
  pg : ∀ x ∈ b.secs, ∃ K, PgsOk b.ms b.ht K x.texts
  vs : ∀ x ∈ b.secs, x.vers ≠ [] ∧ x.vers.length = x.texts.length
  ent : (b.secs.map (·.ent)).Nodup
theorem pgs_all {b : Bk} (h : ∀ x ∈ b.secs, ∃ K, PgsOk b.ms b.ht K x.texts) : ∃ K V, ∀ x ∈ b.secs, PgsOk b.ms b.ht K x.texts ∧ x.texts.length ≤ V := by
  suffices ∀ l : List Se, (∀ x ∈ l, ∃ K, PgsOk b.ms b.ht K x.texts) → ∃ K V, ∀ x ∈ l, PgsOk b.ms b.ht K x.texts ∧ x.texts.length ≤ V from this _ h
  intro l
  induction l with
  | nil => intro _; exact ⟨0, 0, fun x hx => by simp at hx⟩
  | cons a l ih =>
    intro hl
    obtain ⟨K, V, h1⟩ := ih fun x hx => hl x (by simp [hx])
    obtain ⟨K', h2⟩ := hl a (by simp)
    refine ⟨max K K', max V a.texts.length, fun x hx => ?_⟩
    rcases List.mem_cons.1 hx with rfl | hx
    · exact ⟨fun t ht => ⟨(h2 t ht).1, by have := (h2 t ht).2; omega⟩, by omega⟩
    · exact ⟨fun t ht => ⟨((h1 x hx).1 t ht).1, by have := ((h1 x hx).1 t ht).2; omega⟩, by have := (h1 x hx).2; omega⟩
theorem sorted_of {b : Bk} (h : ∀ x ∈ b.secs, ∃ K, PgsOk b.ms b.ht K x.texts) : (pagesB b).Pairwise lblt := by
  obtain ⟨K, V, hk⟩ := pgs_all h
  exact (pagesS_ok b.ms b.ht K V b.secs 0 hk).2
theorem pagesS_ends (m h : Int) : ∀ (l : List Se) (n : Int), ∃ n', ∀ r, pagesS m h (l ++ r) n = pagesS m h l n ++ pagesS m h r n' := by
  intro l
  induction l with
  | nil => intro n; exact ⟨n, fun r => rfl⟩
  | cons x l ih =>
    intro n
    obtain ⟨n', h'⟩ := ih (pagesV m h x.ent x.vers x.texts true n 0).2
    exact ⟨n', fun r => by simp only [List.cons_append, pagesS, h', List.append_assoc]⟩
theorem whereG_left (e v w : Int) (A R : List Pg) (x : Int × Int × Nat) (h : whereG e v w A = some x) : whereG e v w (A ++ R) = some x := by
  induction A with
  | nil => simp [whereG] at h
  | cons p A ih =>
    simp only [List.cons_append, whereG] at h ⊢
    split at h
    · next hc => rw [if_pos hc]; exact ih h
    · next hc =>
      rw [if_neg hc]
      split at h
      · exact h
      · exact ih h
/-- What was cited stays: the pages of b are pages of b', and the words of a version of an entry stand where they stood. -/
structure Keeps (b b' : Bk) (e v : Int) : Prop where
  page : ∀ n s p, pageP b n s = some p → pageP b' n s = some p
  place : ∀ w x, whereP b e v w = some x → whereP b' e v w = some x
  ok : OkK b'
theorem Keeps.refl {b : Bk} (h : OkK b) (e v : Int) : Keeps b b e v := ⟨fun _ _ _ h => h, fun _ _ h => h, h⟩
theorem Keeps.trans {b c d : Bk} {e v : Int} (h : Keeps b c e v) (k : Keeps c d e v) : Keeps b d e v := ⟨fun n s p hp => k.page n s p (h.page n s p hp), fun w x hw => k.place w x (h.place w x hw), k.ok⟩
theorem page_of_mem {b : Bk} (h : OkK b) {p : Pg} (hp : p ∈ pagesB b) : pageP b p.num p.suf = some p := find_lab _ (sorted_of h.pg) p hp
theorem page_mem {b : Bk} {n s : Int} {p : Pg} (h : pageP b n s = some p) : p ∈ pagesB b ∧ p.num = n ∧ p.suf = s := by
  unfold pageP at h
  have h1 := List.find?_some h
  simp only [decide_eq_true_eq] at h1
  exact ⟨List.mem_of_find?_eq_some h, h1⟩
theorem keeps_of {b b' : Bk} (h' : OkK b') {e v : Int} (hsub : ∀ p ∈ pagesB b, p ∈ pagesB b') (hw : ∀ w x, whereP b e v w = some x → whereP b' e v w = some x) : Keeps b b' e v :=
  ⟨fun n s p hp => by
    obtain ⟨h1, rfl, rfl⟩ := page_mem hp
    exact page_of_mem h' (hsub p h1), hw, h'⟩
/-- A further section. -/
theorem keeps_add {b : Bk} (h : OkK b) (e v : Int) (x : Se) (hx : ∃ K, PgsOk b.ms b.ht K x.texts) (hv : x.vers ≠ [] ∧ x.vers.length = x.texts.length) (hn : ∀ y ∈ b.secs, y.ent ≠ x.ent) : Keeps b { b with secs := b.secs ++ [x] } e v := by
  obtain ⟨n', hp⟩ := pagesS_ends b.ms b.ht b.secs 0
  have hp := hp [x]
  refine keeps_of ⟨fun y hy => ?_, fun y hy => ?_, ?_⟩ (fun p hp' => ?_) (fun w y hw => ?_)
  · simp only [List.mem_append, List.mem_singleton] at hy
    rcases hy with hy | rfl
    · exact h.pg y hy
    · exact hx
  · simp only [List.mem_append, List.mem_singleton] at hy
    rcases hy with hy | rfl
    · exact h.vs y hy
    · exact hv
  · simp only [List.map_append, List.map_cons, List.map_nil]
    rw [List.nodup_append]
    refine ⟨h.ent, by simp, fun a ha b' hb => ?_⟩
    obtain ⟨y, hy, rfl⟩ := List.mem_map.1 ha
    simp only [List.mem_singleton] at hb
    subst hb
    exact hn y hy
  · show p ∈ pagesS b.ms b.ht (b.secs ++ [x]) 0
    rw [hp]; exact List.mem_append_left _ hp'
  · show whereG e v w (pagesS b.ms b.ht (b.secs ++ [x]) 0) = _
    rw [hp]; exact whereG_left e v w _ _ y hw
end Go.Proofs.YtdbnddmncbjobaaGreatDoor

/- Generated books are regular. -/
namespace Go.Proofs.YtdbnddmncbjobaaGreatDoor

/-- A book whose texts are generated ones: at most N sections, at most V texts in each. -/
structure OkB (b : Bk) (N V : Nat) : Prop where
  m0 : 500 ≤ b.ms
  m1 : b.ms ≤ 2000
  h0 : 4 ≤ b.ht
  h1 : b.ht ≤ 100
  n : b.secs.length ≤ N
  vs : ∀ x ∈ b.secs, x.vers.length = x.texts.length ∧ x.vers ≠ [] ∧ x.texts.length ≤ V
  tx : ∀ x ∈ b.secs, ∀ t ∈ x.texts, OkT t
  ent : (b.secs.map (·.ent)).Nodup
theorem pagesT_len (ent v : Int) (f : Bool) : ∀ (ps : List (List Ln × List Ln)) (n s : Int), (pagesT ent v f ps n s).1.length = ps.length := by
  intro ps
  induction ps with
  | nil => intro n s; rfl
  | cons p ps ih => intro n s; simp [pagesT, ih]
theorem pagesV_len (m h ent : Int) (K : Nat) : ∀ (vs : List Int) (ts : List Tx) (f : Bool) (n s : Int), (∀ t ∈ ts, (textP t m h).2.length ≤ K) → (pagesV m h ent vs ts f n s).1.length ≤ K * ts.length := by
  intro vs
  induction vs with
  | nil => intro ts f n s _; simp [pagesV]
  | cons v vs ih =>
    intro ts f n s hk
    cases ts with
    | nil => simp [pagesV]
    | cons t ts =>
      simp only [pagesV, List.length_append, pagesT_len, List.length_cons, Nat.mul_add, Nat.mul_one]
      have h1 := hk t (by simp)
      have h2 := ih ts false (pagesT ent v f (textP t m h).2 n s).2.1 (pagesT ent v f (textP t m h).2 n s).2.2 fun t ht => hk t (by simp [ht])
      omega
theorem pagesS_len (m h : Int) (K V : Nat) : ∀ (l : List Se) (n : Int), (∀ x ∈ l, (∀ t ∈ x.texts, (textP t m h).2.length ≤ K) ∧ x.texts.length ≤ V) → (pagesS m h l n).length ≤ K * V * l.length := by
  intro l
  induction l with
  | nil => intro n _; simp [pagesS]
  | cons x l ih =>
    intro n hk
    simp only [pagesS, List.length_append, List.length_cons, Nat.mul_add, Nat.mul_one]
    have h1 := pagesV_len m h x.ent K x.vers x.texts true n 0 (hk x (by simp)).1
    have h2 := ih (pagesV m h x.ent x.vers x.texts true n 0).2 fun y hy => hk y (by simp [hy])
    have h3 : K * x.texts.length ≤ K * V := Nat.mul_le_mul_left _ (hk x (by simp)).2
    omega
theorem OkT.small {t : Tx} (h : OkT t) : TxS t :=
  ⟨by have := h.np; omega, by have := h.nn; omega, fun p hp => by
    rcases List.mem_append.1 hp with hp | hp
    · have := (h.par.len p hp).2; omega
    · have := (h.len p hp).2; omega⟩
theorem OkB.bkS {b : Bk} {N V : Nat} (h : OkB b N V) (hN : N ≤ 1000000) (hV : V ≤ 1000000) : BkS b.secs :=
  ⟨Nat.le_trans h.n hN, fun x hx => by have := h.vs x hx; omega, fun x hx => by have := h.vs x hx; omega, fun x hx t ht => (h.tx x hx t ht).small⟩
theorem OkB.pgs {b : Bk} {N V : Nat} (h : OkB b N V) : ∀ x ∈ b.secs, PgsOk b.ms b.ht 200 x.texts ∧ x.texts.length ≤ V := fun x hx =>
  ⟨fun t ht => by have := textP_ok (h.tx x hx t ht) h.m0 h.m1 h.h0 h.h1; exact ⟨this.2.1, this.2.2.1⟩, (h.vs x hx).2.2⟩
theorem OkB.np {b : Bk} {N V : Nat} (h : OkB b N V) : (pagesB b).length ≤ 200 * V * N :=
  Nat.le_trans (pagesS_len b.ms b.ht 200 V b.secs 0 fun x hx => ⟨fun t ht => ((h.pgs x hx).1 t ht).2, (h.pgs x hx).2⟩) (Nat.mul_le_mul_left _ h.n)
theorem OkB.bkI {b : Bk} {N V : Nat} (h : OkB b N V) (hN : N ≤ 1000) (hV : 200 * V * N ≤ 1000000) (hV' : V ≤ 1000) : BkI b :=
  ⟨h.bkS (by omega) (by omega), h.m0, h.m1, ⟨by have := h.h0; omega, h.h1⟩, fun x hx => (h.vs x hx).1, fun x hx t ht => txP_of (h.tx x hx t ht) h.m0 h.m1 h.h0 h.h1, Nat.le_trans h.np hV, fun x hx t ht p hp => by
    have h1 := (textP_ok (h.tx x hx t ht) h.m0 h.m1 h.h0 h.h1).2.2.2 p hp
    have := h.h1
    omega⟩
theorem OkB.okK {b : Bk} {N V : Nat} (h : OkB b N V) : OkK b :=
  ⟨fun x hx => ⟨200, (h.pgs x hx).1⟩, fun x hx => ⟨(h.vs x hx).2.1, (h.vs x hx).1⟩, h.ent⟩
end Go.Proofs.YtdbnddmncbjobaaGreatDoor

/- slices.Index and Contains of numbers, glyph.Count, book.within, book.wrong: walked. -/
namespace Go.Proofs.YtdbnddmncbjobaaGreatDoor
open Go Go.RowKit

def IxRel (v : Int) (xs : List Int) (W : World) (s8 : Value) (w' : World) : Prop := ∃ i : Nat, i ≤ xs.length ∧ s8 = .int .i64 i ∧ (∀ y ∈ xs.take i, (y == v) = false) ∧ W = w'
set_option maxHeartbeats 4000000 in
set_option maxRecDepth 100000 in
theorem index_int (P : Nat → Prop) (w : World) (A : Option Addr) (n c : Nat) (xs : List Int) (v : Int) (h : kInt.row w P A n xs) (hn : n ≤ 1000000) :
    Calls Tryz.prog 107 #[.slice A n c, .int .i64 v] w (fun e w' => e = .returned (.int .i64 (idxI (fun x => x == v) xs)) ∧ w = w') := by
  have HL := Lib.hid (Lay.row_len h)
  have HR := Lib.hid h
  clear h
  go_enter Tryz.func107, Tryz.ntmps107
  go_wp2_with fail
  go_loopw [5, 8] (fun _ s8 w' => IxRel v xs w s8 w') (fun _ s8 _ => toM n s8)
  case atStart => exact ⟨0, by omega, rfl, by simp, rfl⟩
  case round =>
    obtain ⟨i, hi, rfl, hno, rfl⟩ := hrel
    rw [← HL.out] at hi
    have HN := Lib.hid hno
    clear hno
    by_cases hlt : i < n
    case neg =>
      obtain rfl : i = n := by omega
      have hni : ¬ ((i : Int) < (i : Int)) := by omega
      have HF := Lib.hid (show idxI (fun x => x == v) xs = -1 from idxI_neg _ _ fun y hy => HN.out y (by rw [HL.out, List.take_length]; exact hy))
      go_wp2_with fail
      go_ret
      exact ⟨ret_i HF.out.symm, rfl⟩
    have hI : (i : Int) < (n : Int) := by omega
    obtain ⟨x, hxi⟩ : ∃ x, xs[i]? = some x := ⟨_, List.getElem?_eq_getElem (by have := HL.out; omega)⟩
    obtain ⟨b, off, rfl, hb1, _, hcell⟩ := int_at HR.out hxi
    have HX := Lib.hid hxi
    clear hxi
    by_cases hv : v = x
    · have hb : (v == x) = true := by simpa using hv
      have HF := Lib.hid (show idxI (fun x => x == v) xs = i from idxI_at _ _ i x HN.out HX.out (by simp [hv]))
      clear hv
      go_wp2_with fail
      go_ret
      exact ⟨ret_i HF.out.symm, rfl⟩
    · have hb : (v == x) = false := by simpa using hv
      have HNX := Lib.hid (take_none HN.out HX.out (show (x == v) = false by simp; exact fun e => hv e.symm))
      clear hv
      go_wp2_with fail
      go_roundw
      case rel => exact ⟨i + 1, by have := HL.out; omega, by simp, HNX.out, rfl⟩
      case measure => simp only [toM]; omega
theorem within_any (w : World) (n lo hi : Int) : Calls Tryz.prog 82 #[.int .i64 n, .int .i64 lo, .int .i64 hi] w (fun e w' => e = .returned (.bool (decide (lo ≤ n) && decide (n ≤ hi))) ∧ w = w') := by
  go_enter Tryz.func82, Tryz.ntmps82
  by_cases h1 : lo ≤ n
  · have g1 : decide (lo ≤ n) = true := by simpa using h1
    go_wp2
    go_ret
    simp [g1]
  · have g1 : decide (lo ≤ n) = false := by simpa using h1
    go_wp2
    go_ret
    simp
def CoR (w1 : World) (L : List (List Wd)) (s3 s13 : Value) (w' : World) : Prop := ∃ i : Nat, i ≤ L.length ∧ s13 = .int .i64 i ∧ s3 = .int .i64 (wordsN (L.take i) : Nat) ∧ w1 = w'
theorem wordsN_take (L : List (List Wd)) (i : Nat) {p : List Wd} (h : L[i]? = some p) : wordsN (L.take (i + 1)) = wordsN (L.take i) + p.length := by
  unfold wordsN
  rw [List.take_add_one, h]
  simp
theorem wordsN_le (L : List (List Wd)) (i : Nat) : wordsN (L.take i) ≤ wordsN L := by
  unfold wordsN
  conv => rhs; rw [← List.take_append_drop i L]
  rw [List.map_append, List.sum_append]
  omega
set_option maxHeartbeats 4000000 in
set_option maxRecDepth 100000 in
theorem count_any (P : Nat → Prop) (w : World) (A A' : Option Addr) (n n' c c' : Nat) (t : Tx) (h1 : kWs.row w P A n t.paras) (h2 : kWs.row w P A' n' t.notes) (hp : t.paras.length ≤ 10000) (hn : t.notes.length ≤ 10000) (hb : wordsN (t.paras ++ t.notes) ≤ 1000000) :
    Calls Tryz.prog 31 #[.agg #[.slice A n c, .slice A' n' c']] w (fun e w' => e = .returned (.int .i64 (wordsN (t.paras ++ t.notes) : Nat)) ∧ Ext w w') := by
  have HC := Lib.hid (fun X (hx : Ext w X) g hg g0 g1 => cat72 kWs rfl P X g A A' n n' c c' _ _ (Lay.row_ext h1 hx) (Lay.row_ext h2 hx) (by have := Lay.row_len h1; omega) (by have := Lay.row_len h2; omega) hg g0 g1)
  obtain ⟨L, hLe⟩ : ∃ L, t.paras ++ t.notes = L := ⟨_, rfl⟩
  obtain ⟨m, hm⟩ : ∃ m, L.length = m := ⟨_, rfl⟩
  have hm2 : m ≤ 20000 := by rw [← hm, ← hLe, List.length_append]; omega
  rw [hLe] at HC
  rw [hLe] at hb ⊢
  have HM := Lib.hid hm
  have HB := Lib.hid hb
  have HC2 := Lib.hid (fun X (hx : Ext w X) g hg g0 g1 => (show Calls Tryz.prog 72 #[.slice (some ⟨g, 0, none⟩) 2 2] X (fun e X' => ∃ A3 c3, e = .returned (.slice A3 m c3) ∧ kWs.row X' (fun j => P j ∨ X.heap.size ≤ j) A3 m L ∧ Ext X X') from by
    refine (HC.out X hx g hg g0 g1).mono ?_
    rintro e X' ⟨A3, c3, rfl, ho, hxx⟩
    obtain ⟨Ar, cr, er, _, hrow⟩ := Lay.own_row ho
    obtain ⟨e1, _, _⟩ := Value.slice.inj er
    subst hm
    rw [← e1] at hrow
    exact ⟨A3, c3, rfl, Lay.row_mono hrow fun j hj _ => hj.imp id fun hj => (Lay.own_lt ho j hj).1, hxx⟩))
  clear h1 h2 hp hn hLe hm hb HC
  go_enter Tryz.func31, Tryz.ntmps31
  go_wp2_with (first | (go_at_call 72; refine (HC2.out _ (((Ext.refl w).alloc _).alloc _) _ (by simp) (by go_simp) (by go_simp)).mono ?_; rintro e w1 ⟨A3, c3, rfl, hrow, hx⟩; have HRW := Lib.hid hrow; have HX := Lib.hid ((((Ext.refl w).alloc _).alloc _).trans hx); clear hrow hx))
  go_loopw [3, 5, 13] (fun s3 _ s13 w' => CoR w1 L s3 s13 w') (fun _ _ s13 _ => toM m s13)
  case atStart => exact ⟨0, by omega, rfl, by simp [wordsN], rfl⟩
  case round =>
    obtain ⟨i, hi, rfl, rfl, rfl⟩ := hrel
    rw [HM.out] at hi
    have hq1 := wordsN_le L i
    have hq2 := HB.out
    obtain ⟨q, hq⟩ : ∃ q, wordsN (L.take i) = q := ⟨_, rfl⟩
    rw [hq] at hq1 ⊢
    have HQ := Lib.hid hq
    clear hq
    by_cases hlt : i < m
    case neg =>
      obtain rfl : i = m := by omega
      have hni : ¬ ((i : Int) < (i : Int)) := by omega
      have HF := Lib.hid (show ((wordsN L : Nat) : Int) = (q : Int) by rw [← HQ.out, ← HM.out, List.take_length])
      go_wp2_with fail
      go_ret
      exact ⟨ret_i HF.out.symm, HX.out⟩
    have hI : (i : Int) < (m : Int) := by omega
    obtain ⟨p, hpi⟩ : ∃ p, L[i]? = some p := ⟨_, List.getElem?_eq_getElem (by have := HM.out; omega)⟩
    obtain ⟨bl, ol, cl, rfl, hbl, _, hrl, hcl⟩ := Lay.row_at HRW.out hpi
    obtain ⟨Ap, cp, rfl, _, _⟩ := kWs_rep.1 hrl
    have e0 := hcl 0 _ rfl
    rw [show kWs.sz = 1 from rfl, Nat.mul_one, Nat.add_zero] at e0
    have HST := Lib.hid (wordsN_take L i hpi)
    have hq3 := wordsN_le L (i + 1)
    rw [HST.out, HQ.out] at hq3
    have HPI := Lib.hid hpi
    clear hcl hrl hpi
    go_wp2_with fail
    go_roundw
    case rel => exact ⟨i + 1, by have := HM.out; omega, by simp, by rw [HST.out, HQ.out]; simp, rfl⟩
    case measure => simp only [toM]; omega
end Go.Proofs.YtdbnddmncbjobaaGreatDoor
