/- What CiteLeads asks: plain. -/
import Derived.Test.YtdbnddmncbjobaaGreatDoorQba
import Derived.Test.YtdbnddmncbjobaaGreatDoorQbb
namespace Go.Proofs.YtdbnddmncbjobaaGreatDoor
section
open Go Go.RowKit

theorem pagesT_all (R : List Ln → List Ln → Prop) (ent ver : Int) (first : Bool) : ∀ (ps : List (List Ln × List Ln)) (n s : Int), (∀ q ∈ ps, R q.1 q.2) → ∀ p ∈ (pagesT ent ver first ps n s).1, R p.body p.nts := by
  intro ps
  induction ps with
  | nil => intro n s _ p hp; simp [pagesT] at hp
  | cons a ps ih =>
    intro n s h p hp
    simp only [pagesT] at hp
    rcases List.mem_cons.1 hp with rfl | hp
    · exact h a (by simp)
    · exact ih _ _ (fun q hq => h q (by simp [hq])) p hp
theorem pagesV_all (R : List Ln → List Ln → Prop) (m h ent : Int) : ∀ (vs : List Int) (ts : List Tx) (f : Bool) (n s : Int), (∀ t ∈ ts, ∀ q ∈ (textP t m h).2, R q.1 q.2) → ∀ p ∈ (pagesV m h ent vs ts f n s).1, R p.body p.nts := by
  intro vs
  induction vs with
  | nil => intro ts f n s _ p hp; simp [pagesV] at hp
  | cons v vs ih =>
    intro ts f n s hk p hp
    cases ts with
    | nil => simp [pagesV] at hp
    | cons t ts =>
      simp only [pagesV] at hp
      rcases List.mem_append.1 hp with hp | hp
      · exact pagesT_all R _ _ _ _ _ _ (hk t (by simp)) p hp
      · exact ih ts _ _ _ (fun t ht => hk t (by simp [ht])) p hp
theorem pagesS_all (R : List Ln → List Ln → Prop) (m h : Int) : ∀ (l : List Se) (n : Int), (∀ x ∈ l, ∀ t ∈ x.texts, ∀ q ∈ (textP t m h).2, R q.1 q.2) → ∀ p ∈ pagesS m h l n, R p.body p.nts := by
  intro l
  induction l with
  | nil => intro n _ p hp; simp [pagesS] at hp
  | cons x l ih =>
    intro n hk p hp
    simp only [pagesS] at hp
    rcases List.mem_append.1 hp with hp | hp
    · exact pagesV_all R _ _ _ _ _ _ _ _ (hk x (by simp)) p hp
    · exact ih _ (fun y hy => hk y (by simp [hy])) p hp
theorem OkB.hgt {b : Bk} {N V : Nat} (h : OkB b N V) : ∀ p ∈ pagesB b, (p.body ++ p.nts).length ≤ 100 := by
  intro p hp
  have := pagesS_all (fun x y => x.length + y.length ≤ 100) b.ms b.ht b.secs 0 (fun x hx t ht q hq => by
    have h9 := (textP_ok (h.tx x hx t ht) h.m0 h.m1 h.h0 h.h1).2.2.2 q hq
    have := h.h1
    show q.1.length + q.2.length ≤ 100
    omega) p hp
  rw [List.length_append]
  exact this
end
section

def addP (b : Bk) (e v : Int) (t : Tx) : Bk := { b with secs := b.secs ++ [⟨e, false, [v], [t]⟩] }
theorem OkB.add {b : Bk} {N V : Nat} (h : OkB b N V) (hV : 1 ≤ V) {e : Int} (v : Int) {t : Tx} (ht : OkT t) (hn : ∀ y ∈ b.secs, y.ent ≠ e) : OkB (addP b e v t) (N + 1) V := by
  refine ⟨h.m0, h.m1, h.h0, h.h1, by have := h.n; simp [addP]; omega, fun x hx => ?_, fun x hx => ?_, ?_⟩
  · simp only [addP, List.mem_append, List.mem_singleton] at hx
    rcases hx with hx | rfl
    · exact h.vs x hx
    · exact ⟨rfl, by simp, hV⟩
  · simp only [addP, List.mem_append, List.mem_singleton] at hx
    rcases hx with hx | rfl
    · exact h.tx x hx
    · intro u hu
      simp only [List.mem_singleton] at hu
      subst hu; exact ht
  · simp only [addP, List.map_append, List.map_cons, List.map_nil]
    rw [List.nodup_append]
    refine ⟨h.ent, by simp, fun a ha b' hb => ?_⟩
    obtain ⟨y, hy, rfl⟩ := List.mem_map.1 ha
    simp only [List.mem_singleton] at hb
    subst hb
    exact hn y hy
/-- The books that operations on a frozen one make. -/
structure KpS (b0 : Bk) (e v : Int) (i : Nat) (b : Bk) : Prop where
  ok : OkB b (4 + i) (3 + i)
  kp : Keeps b0 b e v
  fz : frzIn b e = true
  fa : ∀ x ∈ b.secs, x.ent = e → x.fz = true
theorem KpS.succ {b0 b : Bk} {e v : Int} {i : Nat} (h : KpS b0 e v i b) : KpS b0 e v (i + 1) b := ⟨h.ok.big (by omega) (by omega), h.kp, h.fz, h.fa⟩
theorem OkT.pgs {b : Bk} {N V : Nat} (h : OkB b N V) {t : Tx} (ht : OkT t) : (textP t b.ms b.ht).2 ≠ [] ∧ (textP t b.ms b.ht).2.length ≤ 200 := by
  have := textP_ok ht h.m0 h.m1 h.h0 h.h1
  exact ⟨this.2.1, this.2.2.1⟩
theorem KpS.add {b0 b : Bk} {e v : Int} {i : Nat} (h : KpS b0 e v i b) {e' : Int} (v' : Int) {t : Tx} (ht : OkT t) (hn : ∀ y ∈ b.secs, y.ent ≠ e') : KpS b0 e v (i + 1) (addP b e' v' t) := by
  have h1 := (h.ok.big (N' := 4 + i) (V' := 3 + (i + 1)) (by omega) (by omega)).add (by omega) v' ht hn
  refine ⟨by rw [show 4 + (i + 1) = 4 + i + 1 by omega]; exact h1, h.kp.trans (keeps_add h.ok.okK e v ⟨e', false, [v'], [t]⟩ ⟨200, fun u hu => ?_⟩ ⟨by simp, rfl⟩ hn), ?_, fun x hx he => ?_⟩
  · simp only [List.mem_singleton] at hu
    subst hu
    exact OkT.pgs h.ok ht
  · have := h.fz
    unfold frzIn at this ⊢
    simp only [addP, List.any_append, this, Bool.true_or]
  · simp only [addP, List.mem_append, List.mem_singleton] at hx
    rcases hx with hx | rfl
    · exact h.fa x hx he
    · exfalso
      have h2 := h.fz
      unfold frzIn at h2
      rw [List.any_eq_true] at h2
      obtain ⟨y, hy, h3⟩ := h2
      simp only [Bool.and_eq_true, beq_iff_eq] at h3
      exact hn y hy (h3.1.trans he.symm)
theorem KpS.start {b : Bk} (h : OkB b 4 3) (hf : ∀ x ∈ b.secs, x.fz = true) {br e v wd : Int} {y : Int × Int × Nat} (ho : ofP b br e v wd = some y) : KpS b e v 0 b := by
  refine ⟨h, Keeps.refl h.okK e v, ?_, fun x hx _ => hf x hx⟩
  unfold ofP at ho
  split at ho
  · cases ho
  · next hc => simp only [not_or] at hc; simpa using hc.2.2
/-- What was cited is cited so, and leads where it led. -/
theorem KpS.of {b0 b : Bk} {e v : Int} {i : Nat} (h : KpS b0 e v i b) {wd n s : Int} {k : Nat} (ho : ofP b0 0 e v wd = some (n, s, k)) : ofP b 0 e v wd = some (n, s, k) := by
  have h1 : whereP b0 e v wd = some (n, s, k) := by
    unfold ofP at ho
    split at ho
    · cases ho
    · exact ho
  unfold ofP
  rw [if_neg (by rw [h.fz]; simp)]
  exact h.kp.place wd _ h1
theorem KpS.find {b0 b : Bk} {e v : Int} {i : Nat} (h : KpS b0 e v i b) {n s line : Int} {p : Pg} {x : Ln} (hc : citP b0 n s line = some (p, x)) : citP b n s line = some (p, x) := by
  unfold citP at hc ⊢
  cases hp : pageP b0 n s with
  | none => rw [hp] at hc; cases hc
  | some q =>
    rw [hp] at hc
    rw [h.kp.page n s q hp]
    exact hc
end
end Go.Proofs.YtdbnddmncbjobaaGreatDoor