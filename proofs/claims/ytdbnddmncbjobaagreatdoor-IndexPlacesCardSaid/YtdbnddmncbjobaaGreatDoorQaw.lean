/- The iterator's states, and its step. -/
import Derived.Test.YtdbnddmncbjobaaGreatDoorQav
namespace Go.Proofs.YtdbnddmncbjobaaGreatDoor
section
open Go Go.RowKit

theorem TxP.len {t : Tx} {m h : Int} (hT : TxP t m h) : (textP t m h).2.length ≤ 200 := by
  rw [hT.eq]
  unfold setPg
  rw [if_neg (by rw [hT.pg]; simp)]
  exact Nat.le_trans (setF_len _ _ _ _ _) hT.left
/-- A book of which every text has pages. -/
structure BkI (b : Bk) : Prop where
  s : BkS b.secs
  m0 : 500 ≤ b.ms
  m1 : b.ms ≤ 2000
  h : 0 ≤ b.ht ∧ b.ht ≤ 100
  vs : ∀ x ∈ b.secs, x.vers.length = x.texts.length
  tx : ∀ x ∈ b.secs, ∀ t ∈ x.texts, TxP t b.ms b.ht
  np : (pagesB b).length ≤ 1000000
  ln : ∀ x ∈ b.secs, ∀ t ∈ x.texts, ∀ p ∈ (textP t b.ms b.ht).2, p.1.length ≤ 1000 ∧ p.2.length ≤ 1000
/-- The counts of the pages that have come. -/
def Bd (num suf : Int) (pre : List PgV) : Prop := 0 ≤ num ∧ num ≤ pre.length ∧ 0 ≤ suf ∧ suf ≤ pre.length
def ItO (J : List PgV → (Nat → Prop) → World → Prop) (Q0 : Nat → Prop) (B bb : Nat) (b : Bk) (A : Option Addr) (N c : Nat) (s16 : Value) (w' : World) : Prop :=
  ∃ (i : Nat) (num suf : Int) (pre : List PgV) (Q : Nat → Prop), i ≤ b.secs.length ∧ s16 = .int .i64 i ∧ ItC J Q0 B bb b A N c num suf pre Q w' ∧ Bd num suf pre ∧ pre.map (·.1) ++ pagesS b.ms b.ht (b.secs.drop i) num = pagesB b
theorem pagesV_nil (m h ent : Int) (vs : List Int) (f : Bool) (n s : Int) : pagesV m h ent vs [] f n s = ([], n) := by cases vs <;> rfl
def ItM (J : List PgV → (Nat → Prop) → World → Prop) (Q0 : Nat → Prop) (B bb : Nat) (b : Bk) (A : Option Addr) (N c : Nat) (b5 : Nat) (x : Se) (A1 : Option Addr) (n1 c1 : Nat) (A2 : Option Addr) (n2 c2 : Nat) (rest : List Se) (s24 : Value) (w' : World) : Prop :=
  ∃ (k : Nat) (num suf : Int) (pre : List PgV) (Q : Nat → Prop), k ≤ x.texts.length ∧ s24 = .int .i64 k ∧ ItC J Q0 B bb b A N c num suf pre Q w' ∧ Bd num suf pre ∧
    Q b5 ∧ w'.heap[b5]? = some (.cells #[.int .i64 x.ent, .bool x.fz, .slice A1 n1 c1, .slice A2 n2 c2] 46 (0, 0)) ∧ kInt.row w' Q0 A1 n1 x.vers ∧ kTx.row w' Q0 A2 n2 x.texts ∧
    pre.map (·.1) ++ ((pagesV b.ms b.ht x.ent (x.vers.drop k) (x.texts.drop k) (decide (k = 0)) num suf).1 ++ pagesS b.ms b.ht rest (pagesV b.ms b.ht x.ent (x.vers.drop k) (x.texts.drop k) (decide (k = 0)) num suf).2) = pagesB b
def ItI (J : List PgV → (Nat → Prop) → World → Prop) (Q0 : Nat → Prop) (B bb : Nat) (b : Bk) (A : Option Addr) (N c : Nat) (b5 : Nat) (x : Se) (A1 : Option Addr) (n1 c1 : Nat) (A2 : Option Addr) (n2 c2 : Nat) (rest : List Se) (k : Nat) (v : Int) (pgs : List (List Ln × List Ln)) (A6 : Option Addr) (S0 : Nat) (s40 : Value) (w' : World) : Prop :=
  ∃ (p : Nat) (num suf : Int) (pre : List PgV) (Q : Nat → Prop), p ≤ pgs.length ∧ s40 = .int .i64 p ∧ ItC J Q0 B bb b A N c num suf pre Q w' ∧ Bd num suf pre ∧
    Q b5 ∧ w'.heap[b5]? = some (.cells #[.int .i64 x.ent, .bool x.fz, .slice A1 n1 c1, .slice A2 n2 c2] 46 (0, 0)) ∧ kInt.row w' Q0 A1 n1 x.vers ∧ kTx.row w' Q0 A2 n2 x.texts ∧ kPg.row w' (fun j => (Q j ∧ j ≠ b5 ∧ j ≠ B) ∧ S0 ≤ j) A6 pgs.length (pgs.map pgOf) ∧
    pre.map (·.1) ++ ((pagesT x.ent v (decide (k = 0)) (pgs.drop p) num suf).1 ++ ((pagesV b.ms b.ht x.ent (x.vers.drop (k + 1)) (x.texts.drop (k + 1)) false (pagesT x.ent v (decide (k = 0)) (pgs.drop p) num suf).2.1 (pagesT x.ent v (decide (k = 0)) (pgs.drop p) num suf).2.2).1 ++ pagesS b.ms b.ht rest (pagesV b.ms b.ht x.ent (x.vers.drop (k + 1)) (x.texts.drop (k + 1)) false (pagesT x.ent v (decide (k = 0)) (pgs.drop p) num suf).2.1 (pagesT x.ent v (decide (k = 0)) (pgs.drop p) num suf).2.2).2)) = pagesB b
/-- The step of a label. -/
def stN (k : Nat) (num : Int) : Int := if k = 0 then num + 1 else num
def stS (k : Nat) (suf : Int) : Int := if k = 0 then suf else suf + 1
theorem pagesT_step (ent v : Int) (k : Nat) {pgs : List (List Ln × List Ln)} {p : Nat} {pg : List Ln × List Ln} (hp : pgs[p]? = some pg) (n s : Int) :
    pagesT ent v (decide (k = 0)) (pgs.drop p) n s = (⟨stN k n, stS k s, ent, v, pg.1, pg.2⟩ :: (pagesT ent v (decide (k = 0)) (pgs.drop (p + 1)) (stN k n) (stS k s)).1, (pagesT ent v (decide (k = 0)) (pgs.drop (p + 1)) (stN k n) (stS k s)).2) := by
  rw [List.drop_eq_getElem_cons (List.getElem?_eq_some_iff.1 hp).1, (List.getElem?_eq_some_iff.1 hp).2]
  unfold stN stS
  by_cases hk : k = 0 <;> simp [pagesT, hk]
theorem itI_next {J : List PgV → (Nat → Prop) → World → Prop} {Q0 Q : Nat → Prop} {B bb N c b5 n1 c1 n2 c2 k p S0 : Nat} {b : Bk} {A A1 A2 A6 : Option Addr} {num suf v : Int} {pre : List PgV} {x : Se} {rest : List Se} {pgs : List (List Ln × List Ln)} {pg : List Ln × List Ln} {wi w9 W2 : World} {pv : PgV}
    (hpi : pgs[p]? = some pg) (hbb : Q0 bb) (h4 : Q0 4) (hC : ItC J Q0 B bb b A N c (stN k num) (stS k suf) pre (Qn Q wi w9) w9) (hl : Qn Q wi w9 (w9.heap.size - 1)) (hBd : Bd num suf pre) (hq5 : Q b5)
    (hB5 : w9.heap[b5]? = some (.cells #[.int .i64 x.ent, .bool x.fz, .slice A1 n1 c1, .slice A2 n2 c2] 46 (0, 0))) (hR1 : kInt.row w9 Q0 A1 n1 x.vers) (hR2 : kTx.row w9 Q0 A2 n2 x.texts) (hRP : kPg.row w9 (fun j => (Q j ∧ j ≠ b5 ∧ j ≠ B) ∧ S0 ≤ j) A6 pgs.length (pgs.map pgOf))
    (hS : pre.map (·.1) ++ ((pagesT x.ent v (decide (k = 0)) (pgs.drop p) num suf).1 ++ ((pagesV b.ms b.ht x.ent (x.vers.drop (k + 1)) (x.texts.drop (k + 1)) false (pagesT x.ent v (decide (k = 0)) (pgs.drop p) num suf).2.1 (pagesT x.ent v (decide (k = 0)) (pgs.drop p) num suf).2.2).1 ++ pagesS b.ms b.ht rest (pagesV b.ms b.ht x.ent (x.vers.drop (k + 1)) (x.texts.drop (k + 1)) false (pagesT x.ent v (decide (k = 0)) (pgs.drop p) num suf).2.1 (pagesT x.ent v (decide (k = 0)) (pgs.drop p) num suf).2.2).2)) = pagesB b)
    (hpv : pv.1 = ⟨stN k num, stS k suf, x.ent, v, pg.1, pg.2⟩) (hJ : J (pre ++ [pv]) (Qn Q wi w9) W2) (hk : ∀ j, Qn Q wi w9 j → W2.heap[j]? = w9.heap[j]?) :
    ItI J Q0 B bb b A N c b5 x A1 n1 c1 A2 n2 c2 rest k v pgs A6 S0 (.int .i64 ((p : Int) + 1)) W2 := by
  have hC2 := hC.round hJ hk hl hbb h4
  have hsz := kept_size hk hl (Nat.lt_of_le_of_lt (Nat.zero_le _) (hC.lt _ hl))
  obtain ⟨h0, h1, h2, h3⟩ := hBd
  refine ⟨p + 1, stN k num, stS k suf, pre ++ [pv], Qn Q wi w9, (List.getElem?_eq_some_iff.1 hpi).1, by simp, hC2, ⟨?_, ?_, ?_, ?_⟩, .inl hq5, (hk b5 (.inl hq5)).trans hB5, Lay.row_keep hR1 hsz fun j hj _ => hk j (hC.q0 j hj), Lay.row_keep hR2 hsz fun j hj _ => hk j (hC.q0 j hj), ?_, ?_⟩
  · unfold stN; split <;> omega
  · unfold stN; simp only [List.length_append, List.length_cons, List.length_nil]; split <;> omega
  · unfold stS; split <;> omega
  · unfold stS; simp only [List.length_append, List.length_cons, List.length_nil]; split <;> omega
  · exact Lay.row_mono (Lay.row_keep hRP hsz fun j hj _ => hk j (.inl hj.1.1)) fun j hj _ => ⟨⟨.inl hj.1.1, hj.1.2⟩, hj.2⟩
  · rw [pagesT_step x.ent v k hpi] at hS
    rw [← hS, List.map_append, List.map_cons, List.map_nil, hpv, List.append_assoc]
    rfl
theorem pre_cons {γ : Type} (X : List γ) (p : γ) (R Y : List γ) : X ++ [p] <+: X ++ ((p :: R) ++ Y) := ⟨R ++ Y, by simp⟩
theorem itI_stop {b : Bk} {k p : Nat} {num suf v : Int} {pre : List PgV} {x : Se} {rest : List Se} {pgs : List (List Ln × List Ln)} {pg : List Ln × List Ln} {pv : PgV} (hpi : pgs[p]? = some pg)
    (hS : pre.map (·.1) ++ ((pagesT x.ent v (decide (k = 0)) (pgs.drop p) num suf).1 ++ ((pagesV b.ms b.ht x.ent (x.vers.drop (k + 1)) (x.texts.drop (k + 1)) false (pagesT x.ent v (decide (k = 0)) (pgs.drop p) num suf).2.1 (pagesT x.ent v (decide (k = 0)) (pgs.drop p) num suf).2.2).1 ++ pagesS b.ms b.ht rest (pagesV b.ms b.ht x.ent (x.vers.drop (k + 1)) (x.texts.drop (k + 1)) false (pagesT x.ent v (decide (k = 0)) (pgs.drop p) num suf).2.1 (pagesT x.ent v (decide (k = 0)) (pgs.drop p) num suf).2.2).2)) = pagesB b)
    (hpv : pv.1 = ⟨stN k num, stS k suf, x.ent, v, pg.1, pg.2⟩) : (pre ++ [pv]).map (·.1) <+: pagesB b := by
  rw [pagesT_step x.ent v k hpi] at hS
  rw [← hS, List.map_append, List.map_cons, List.map_nil, hpv]
  exact pre_cons _ _ _ _
end
section

/-- a before b. -/
def lblt (a b : Pg) : Prop := a.num < b.num ∨ a.num = b.num ∧ a.suf < b.suf
theorem pagesT_one (ent ver : Int) : ∀ (ps : List (List Ln × List Ln)) (n s : Int), (pagesT ent ver true ps n s).2 = (n + ps.length, s) ∧ (pagesT ent ver true ps n s).1.length = ps.length ∧
    (∀ p ∈ (pagesT ent ver true ps n s).1, n < p.num ∧ p.num ≤ n + ps.length ∧ p.suf = s ∧ p.ent = ent ∧ p.ver = ver) ∧ (pagesT ent ver true ps n s).1.Pairwise lblt := by
  intro ps
  induction ps with
  | nil => intro n s; simp [pagesT]
  | cons p ps ih =>
    intro n s
    simp only [pagesT, if_true]
    obtain ⟨h1, h2, h3, h4⟩ := ih (n + 1) s
    refine ⟨?_, by simp [h2], fun x hx => ?_, ?_⟩
    · rw [h1]; simp only [List.length_cons]; congr 1; omega
    · rcases List.mem_cons.1 hx with rfl | hx
      · simp; omega
      · have := h3 x hx; simp only [List.length_cons]; omega
    · rw [List.pairwise_cons]
      exact ⟨fun x hx => .inl (by have := (h3 x hx).1; simp only; omega), h4⟩
theorem pagesT_more (ent ver : Int) : ∀ (ps : List (List Ln × List Ln)) (n s : Int), (pagesT ent ver false ps n s).2 = (n, s + ps.length) ∧ (pagesT ent ver false ps n s).1.length = ps.length ∧
    (∀ p ∈ (pagesT ent ver false ps n s).1, p.num = n ∧ s < p.suf ∧ p.suf ≤ s + ps.length ∧ p.ent = ent ∧ p.ver = ver) ∧ (pagesT ent ver false ps n s).1.Pairwise lblt := by
  intro ps
  induction ps with
  | nil => intro n s; simp [pagesT]
  | cons p ps ih =>
    intro n s
    simp only [pagesT, Bool.false_eq_true, if_false]
    obtain ⟨h1, h2, h3, h4⟩ := ih n (s + 1)
    refine ⟨?_, by simp [h2], fun x hx => ?_, ?_⟩
    · rw [h1]; simp only [List.length_cons]; congr 1; omega
    · rcases List.mem_cons.1 hx with rfl | hx
      · simp; omega
      · have := h3 x hx; simp only [List.length_cons]; omega
    · rw [List.pairwise_cons]
      exact ⟨fun x hx => .inr (by have := h3 x hx; simp only; omega), h4⟩
/-- The texts of a section, all with so many pages at most. -/
def PgsOk (m h : Int) (K : Nat) (ts : List Tx) : Prop := ∀ t ∈ ts, (textP t m h).2 ≠ [] ∧ (textP t m h).2.length ≤ K
theorem pagesV_more (m h ent : Int) (K : Nat) : ∀ (vs : List Int) (ts : List Tx) (n s : Int), PgsOk m h K ts →
    (pagesV m h ent vs ts false n s).2 = n ∧ (∀ p ∈ (pagesV m h ent vs ts false n s).1, p.num = n ∧ s < p.suf ∧ p.suf ≤ s + (K * ts.length : Nat)) ∧ (pagesV m h ent vs ts false n s).1.Pairwise lblt := by
  intro vs
  induction vs with
  | nil => intro ts n s _; simp [pagesV]
  | cons v vs ih =>
    intro ts n s hk
    cases ts with
    | nil => simp [pagesV]
    | cons t ts =>
      simp only [pagesV]
      obtain ⟨h1, _, h3, h4⟩ := pagesT_more ent v (textP t m h).2 n s
      rw [h1]
      have hK := (hk t (by simp)).2
      obtain ⟨g1, g2, g3⟩ := ih ts n (s + (textP t m h).2.length) fun x hx => hk x (by simp [hx])
      refine ⟨g1, fun p hp => ?_, ?_⟩
      · simp only [List.length_cons, Nat.mul_add, Nat.mul_one]
        rcases List.mem_append.1 hp with hp | hp
        · have := h3 p hp; omega
        · have := g2 p hp; omega
      · rw [List.pairwise_append]
        exact ⟨h4, g3, fun a ha b hb => .inr (by have := h3 a ha; have := g2 b hb; omega)⟩
theorem pagesV_one (m h ent : Int) (K : Nat) : ∀ (vs : List Int) (ts : List Tx) (n : Int), PgsOk m h K ts →
    n ≤ (pagesV m h ent vs ts true n 0).2 ∧ (pagesV m h ent vs ts true n 0).2 ≤ n + K ∧ (∀ p ∈ (pagesV m h ent vs ts true n 0).1, n < p.num ∧ p.num ≤ (pagesV m h ent vs ts true n 0).2 ∧ 0 ≤ p.suf ∧ p.suf ≤ (K * ts.length : Nat)) ∧ (pagesV m h ent vs ts true n 0).1.Pairwise lblt := by
  intro vs ts n hk
  cases vs with
  | nil => simp [pagesV]; omega
  | cons v vs =>
    cases ts with
    | nil => simp [pagesV]; omega
    | cons t ts =>
      simp only [pagesV]
      obtain ⟨h1, _, h3, h4⟩ := pagesT_one ent v (textP t m h).2 n 0
      rw [h1]
      have hK := hk t (by simp)
      have hp : 1 ≤ (textP t m h).2.length := List.length_pos_iff.2 hK.1
      obtain ⟨g1, g2, g3⟩ := pagesV_more m h ent K vs ts (n + (textP t m h).2.length) 0 fun x hx => hk x (by simp [hx])
      rw [g1]
      refine ⟨by omega, by omega, fun p hp => ?_, ?_⟩
      · simp only [List.length_cons, Nat.mul_add, Nat.mul_one]
        rcases List.mem_append.1 hp with hp | hp
        · have := h3 p hp; omega
        · have := g2 p hp; omega
      · rw [List.pairwise_append]
        exact ⟨h4, g3, fun a ha b hb => by
          have h5 := h3 a ha; have h6 := g2 b hb
          by_cases h7 : a.num = n + (textP t m h).2.length
          · exact .inr ⟨by omega, by omega⟩
          · exact .inl (by omega)⟩
theorem pagesS_ok (m h : Int) (K V : Nat) : ∀ (l : List Se) (n : Int), (∀ x ∈ l, PgsOk m h K x.texts ∧ x.texts.length ≤ V) →
    (∀ p ∈ pagesS m h l n, n < p.num ∧ p.num ≤ n + (K * l.length : Nat) ∧ 0 ≤ p.suf ∧ p.suf ≤ (K * V : Nat)) ∧ (pagesS m h l n).Pairwise lblt := by
  intro l
  induction l with
  | nil => intro n _; simp [pagesS]
  | cons x l ih =>
    intro n hk
    simp only [pagesS]
    obtain ⟨h1, h2, h3, h4⟩ := pagesV_one m h x.ent K x.vers x.texts n (hk x (by simp)).1
    obtain ⟨g1, g2⟩ := ih (pagesV m h x.ent x.vers x.texts true n 0).2 fun y hy => hk y (by simp [hy])
    have hV : K * x.texts.length ≤ K * V := Nat.mul_le_mul_left _ (hk x (by simp)).2
    refine ⟨fun p hp => ?_, ?_⟩
    · simp only [List.length_cons, Nat.mul_add, Nat.mul_one]
      rcases List.mem_append.1 hp with hp | hp
      · have := h3 p hp; omega
      · have := g1 p hp; omega
    · rw [List.pairwise_append]
      exact ⟨h4, g2, fun a ha b hb => .inl (by have := h3 a ha; have := g1 b hb; omega)⟩
/-- In a list whose labels grow, the page with the label of a page is that page. -/
theorem find_lab : ∀ (l : List Pg), l.Pairwise lblt → ∀ p ∈ l, l.find? (fun q => decide (q.num = p.num ∧ q.suf = p.suf)) = some p := by
  intro l
  induction l with
  | nil => intro _ p hp; simp at hp
  | cons a l ih =>
    intro hl p hp
    rw [List.pairwise_cons] at hl
    rcases List.mem_cons.1 hp with rfl | hp
    · rw [List.find?_cons_of_pos (by simp)]
    · rw [List.find?_cons_of_neg (by
        have := hl.1 p hp
        unfold lblt at this
        simp only [decide_eq_true_eq]; omega)]
      exact ih hl.2 p hp
end
section

/-- A book whose labels are different and whose entries are. -/
structure OkK (b : Bk) : Prop where
  pg : ∀ x ∈ b.secs, ∃ K, PgsOk b.ms b.ht K x.texts
  vs : ∀ x ∈ b.secs, x.vers ≠ [] ∧ x.vers.length = x.texts.length
  ent : (b.secs.map (·.ent)).Nodup
theorem pgs_all {b : Bk} (h : ∀ x ∈ b.secs, ∃ K, PgsOk b.ms b.ht K x.texts) : ∃ K V, ∀ x ∈ b.secs, PgsOk b.ms b.ht K x.texts ∧ x.texts.length ≤ V := by
  suffices ∀ l : List Se, (∀ x ∈ l, ∃ K, PgsOk b.ms b.ht K x.texts) → ∃ K V, ∀ x ∈ l, PgsOk b.ms b.ht K x.texts ∧ x.texts.length ≤ V from this _ h
  intro l
  induction l with
  | nil => intro _; exact ⟨0, 0, fun x hx => by simp at hx⟩
  | cons a l ih =>
    intro hl
    obtain ⟨K, V, h1⟩ := ih fun x hx => hl x (by simp [hx])
    obtain ⟨K', h2⟩ := hl a (by simp)
    refine ⟨max K K', max V a.texts.length, fun x hx => ?_⟩
    rcases List.mem_cons.1 hx with rfl | hx
    · exact ⟨fun t ht => ⟨(h2 t ht).1, by have := (h2 t ht).2; omega⟩, by omega⟩
    · exact ⟨fun t ht => ⟨((h1 x hx).1 t ht).1, by have := ((h1 x hx).1 t ht).2; omega⟩, by have := (h1 x hx).2; omega⟩
theorem sorted_of {b : Bk} (h : ∀ x ∈ b.secs, ∃ K, PgsOk b.ms b.ht K x.texts) : (pagesB b).Pairwise lblt := by
  obtain ⟨K, V, hk⟩ := pgs_all h
  exact (pagesS_ok b.ms b.ht K V b.secs 0 hk).2
theorem pagesS_ends (m h : Int) : ∀ (l : List Se) (n : Int), ∃ n', ∀ r, pagesS m h (l ++ r) n = pagesS m h l n ++ pagesS m h r n' := by
  intro l
  induction l with
  | nil => intro n; exact ⟨n, fun r => rfl⟩
  | cons x l ih =>
    intro n
    obtain ⟨n', h'⟩ := ih (pagesV m h x.ent x.vers x.texts true n 0).2
    exact ⟨n', fun r => by simp only [List.cons_append, pagesS, h', List.append_assoc]⟩
theorem whereG_left (e v w : Int) (A R : List Pg) (x : Int × Int × Nat) (h : whereG e v w A = some x) : whereG e v w (A ++ R) = some x := by
  induction A with
  | nil => simp [whereG] at h
  | cons p A ih =>
    simp only [List.cons_append, whereG] at h ⊢
    split at h
    · next hc => rw [if_pos hc]; exact ih h
    · next hc =>
      rw [if_neg hc]
      split at h
      · exact h
      · exact ih h
/-- What was cited stays: the pages of b are pages of b', and the words of a version of an entry stand where they stood. -/
structure Keeps (b b' : Bk) (e v : Int) : Prop where
  page : ∀ n s p, pageP b n s = some p → pageP b' n s = some p
  place : ∀ w x, whereP b e v w = some x → whereP b' e v w = some x
  ok : OkK b'
theorem Keeps.refl {b : Bk} (h : OkK b) (e v : Int) : Keeps b b e v := ⟨fun _ _ _ h => h, fun _ _ h => h, h⟩
theorem Keeps.trans {b c d : Bk} {e v : Int} (h : Keeps b c e v) (k : Keeps c d e v) : Keeps b d e v := ⟨fun n s p hp => k.page n s p (h.page n s p hp), fun w x hw => k.place w x (h.place w x hw), k.ok⟩
theorem page_of_mem {b : Bk} (h : OkK b) {p : Pg} (hp : p ∈ pagesB b) : pageP b p.num p.suf = some p := find_lab _ (sorted_of h.pg) p hp
theorem page_mem {b : Bk} {n s : Int} {p : Pg} (h : pageP b n s = some p) : p ∈ pagesB b ∧ p.num = n ∧ p.suf = s := by
  unfold pageP at h
  have h1 := List.find?_some h
  simp only [decide_eq_true_eq] at h1
  exact ⟨List.mem_of_find?_eq_some h, h1⟩
theorem keeps_of {b b' : Bk} (h' : OkK b') {e v : Int} (hsub : ∀ p ∈ pagesB b, p ∈ pagesB b') (hw : ∀ w x, whereP b e v w = some x → whereP b' e v w = some x) : Keeps b b' e v :=
  ⟨fun n s p hp => by
    obtain ⟨h1, rfl, rfl⟩ := page_mem hp
    exact page_of_mem h' (hsub p h1), hw, h'⟩
/-- A further section. -/
theorem keeps_add {b : Bk} (h : OkK b) (e v : Int) (x : Se) (hx : ∃ K, PgsOk b.ms b.ht K x.texts) (hv : x.vers ≠ [] ∧ x.vers.length = x.texts.length) (hn : ∀ y ∈ b.secs, y.ent ≠ x.ent) : Keeps b { b with secs := b.secs ++ [x] } e v := by
  obtain ⟨n', hp⟩ := pagesS_ends b.ms b.ht b.secs 0
  have hp := hp [x]
  refine keeps_of ⟨fun y hy => ?_, fun y hy => ?_, ?_⟩ (fun p hp' => ?_) (fun w y hw => ?_)
  · simp only [List.mem_append, List.mem_singleton] at hy
    rcases hy with hy | rfl
    · exact h.pg y hy
    · exact hx
  · simp only [List.mem_append, List.mem_singleton] at hy
    rcases hy with hy | rfl
    · exact h.vs y hy
    · exact hv
  · simp only [List.map_append, List.map_cons, List.map_nil]
    rw [List.nodup_append]
    refine ⟨h.ent, by simp, fun a ha b' hb => ?_⟩
    obtain ⟨y, hy, rfl⟩ := List.mem_map.1 ha
    simp only [List.mem_singleton] at hb
    subst hb
    exact hn y hy
  · show p ∈ pagesS b.ms b.ht (b.secs ++ [x]) 0
    rw [hp]; exact List.mem_append_left _ hp'
  · show whereG e v w (pagesS b.ms b.ht (b.secs ++ [x]) 0) = _
    rw [hp]; exact whereG_left e v w _ _ y hw
end
section

/-- A book whose texts are generated ones: at most N sections, at most V texts in each. -/
structure OkB (b : Bk) (N V : Nat) : Prop where
  m0 : 500 ≤ b.ms
  m1 : b.ms ≤ 2000
  h0 : 4 ≤ b.ht
  h1 : b.ht ≤ 100
  n : b.secs.length ≤ N
  vs : ∀ x ∈ b.secs, x.vers.length = x.texts.length ∧ x.vers ≠ [] ∧ x.texts.length ≤ V
  tx : ∀ x ∈ b.secs, ∀ t ∈ x.texts, OkT t
  ent : (b.secs.map (·.ent)).Nodup
theorem pagesT_len (ent v : Int) (f : Bool) : ∀ (ps : List (List Ln × List Ln)) (n s : Int), (pagesT ent v f ps n s).1.length = ps.length := by
  intro ps
  induction ps with
  | nil => intro n s; rfl
  | cons p ps ih => intro n s; simp [pagesT, ih]
theorem pagesV_len (m h ent : Int) (K : Nat) : ∀ (vs : List Int) (ts : List Tx) (f : Bool) (n s : Int), (∀ t ∈ ts, (textP t m h).2.length ≤ K) → (pagesV m h ent vs ts f n s).1.length ≤ K * ts.length := by
  intro vs
  induction vs with
  | nil => intro ts f n s _; simp [pagesV]
  | cons v vs ih =>
    intro ts f n s hk
    cases ts with
    | nil => simp [pagesV]
    | cons t ts =>
      simp only [pagesV, List.length_append, pagesT_len, List.length_cons, Nat.mul_add, Nat.mul_one]
      have h1 := hk t (by simp)
      have h2 := ih ts false (pagesT ent v f (textP t m h).2 n s).2.1 (pagesT ent v f (textP t m h).2 n s).2.2 fun t ht => hk t (by simp [ht])
      omega
theorem pagesS_len (m h : Int) (K V : Nat) : ∀ (l : List Se) (n : Int), (∀ x ∈ l, (∀ t ∈ x.texts, (textP t m h).2.length ≤ K) ∧ x.texts.length ≤ V) → (pagesS m h l n).length ≤ K * V * l.length := by
  intro l
  induction l with
  | nil => intro n _; simp [pagesS]
  | cons x l ih =>
    intro n hk
    simp only [pagesS, List.length_append, List.length_cons, Nat.mul_add, Nat.mul_one]
    have h1 := pagesV_len m h x.ent K x.vers x.texts true n 0 (hk x (by simp)).1
    have h2 := ih (pagesV m h x.ent x.vers x.texts true n 0).2 fun y hy => hk y (by simp [hy])
    have h3 : K * x.texts.length ≤ K * V := Nat.mul_le_mul_left _ (hk x (by simp)).2
    omega
theorem OkT.small {t : Tx} (h : OkT t) : TxS t :=
  ⟨by have := h.np; omega, by have := h.nn; omega, fun p hp => by
    rcases List.mem_append.1 hp with hp | hp
    · have := (h.par.len p hp).2; omega
    · have := (h.len p hp).2; omega⟩
theorem OkB.bkS {b : Bk} {N V : Nat} (h : OkB b N V) (hN : N ≤ 1000000) (hV : V ≤ 1000000) : BkS b.secs :=
  ⟨Nat.le_trans h.n hN, fun x hx => by have := h.vs x hx; omega, fun x hx => by have := h.vs x hx; omega, fun x hx t ht => (h.tx x hx t ht).small⟩
theorem OkB.pgs {b : Bk} {N V : Nat} (h : OkB b N V) : ∀ x ∈ b.secs, PgsOk b.ms b.ht 200 x.texts ∧ x.texts.length ≤ V := fun x hx =>
  ⟨fun t ht => by have := textP_ok (h.tx x hx t ht) h.m0 h.m1 h.h0 h.h1; exact ⟨this.2.1, this.2.2.1⟩, (h.vs x hx).2.2⟩
theorem OkB.np {b : Bk} {N V : Nat} (h : OkB b N V) : (pagesB b).length ≤ 200 * V * N :=
  Nat.le_trans (pagesS_len b.ms b.ht 200 V b.secs 0 fun x hx => ⟨fun t ht => ((h.pgs x hx).1 t ht).2, (h.pgs x hx).2⟩) (Nat.mul_le_mul_left _ h.n)
theorem OkB.bkI {b : Bk} {N V : Nat} (h : OkB b N V) (hN : N ≤ 1000) (hV : 200 * V * N ≤ 1000000) (hV' : V ≤ 1000) : BkI b :=
  ⟨h.bkS (by omega) (by omega), h.m0, h.m1, ⟨by have := h.h0; omega, h.h1⟩, fun x hx => (h.vs x hx).1, fun x hx t ht => txP_of (h.tx x hx t ht) h.m0 h.m1 h.h0 h.h1, Nat.le_trans h.np hV, fun x hx t ht p hp => by
    have h1 := (textP_ok (h.tx x hx t ht) h.m0 h.m1 h.h0 h.h1).2.2.2 p hp
    have := h.h1
    omega⟩
theorem OkB.okK {b : Bk} {N V : Nat} (h : OkB b N V) : OkK b :=
  ⟨fun x hx => ⟨200, (h.pgs x hx).1⟩, fun x hx => ⟨(h.vs x hx).2.1, (h.vs x hx).1⟩, h.ent⟩
end
section
open Go Go.RowKit

def IxRel (v : Int) (xs : List Int) (W : World) (s8 : Value) (w' : World) : Prop := ∃ i : Nat, i ≤ xs.length ∧ s8 = .int .i64 i ∧ (∀ y ∈ xs.take i, (y == v) = false) ∧ W = w'
set_option maxHeartbeats 4000000 in
set_option maxRecDepth 100000 in
theorem index_int (P : Nat → Prop) (w : World) (A : Option Addr) (n c : Nat) (xs : List Int) (v : Int) (h : kInt.row w P A n xs) (hn : n ≤ 1000000) :
    Calls Tryz.prog 107 #[.slice A n c, .int .i64 v] w (fun e w' => e = .returned (.int .i64 (idxI (fun x => x == v) xs)) ∧ w = w') := by
  have HL := Lib.hid (Lay.row_len h)
  have HR := Lib.hid h
  clear h
  go_enter Tryz.func107, Tryz.ntmps107
  go_wp2_with fail
  go_loopw [5, 8] (fun _ s8 w' => IxRel v xs w s8 w') (fun _ s8 _ => toM n s8)
  case atStart => exact ⟨0, by omega, rfl, by simp, rfl⟩
  case round =>
    obtain ⟨i, hi, rfl, hno, rfl⟩ := hrel
    rw [← HL.out] at hi
    have HN := Lib.hid hno
    clear hno
    by_cases hlt : i < n
    case neg =>
      obtain rfl : i = n := by omega
      have hni : ¬ ((i : Int) < (i : Int)) := by omega
      have HF := Lib.hid (show idxI (fun x => x == v) xs = -1 from idxI_neg _ _ fun y hy => HN.out y (by rw [HL.out, List.take_length]; exact hy))
      go_wp2_with fail
      go_ret
      exact ⟨ret_i HF.out.symm, rfl⟩
    have hI : (i : Int) < (n : Int) := by omega
    obtain ⟨x, hxi⟩ : ∃ x, xs[i]? = some x := ⟨_, List.getElem?_eq_getElem (by have := HL.out; omega)⟩
    obtain ⟨b, off, rfl, hb1, _, hcell⟩ := int_at HR.out hxi
    have HX := Lib.hid hxi
    clear hxi
    by_cases hv : v = x
    · have hb : (v == x) = true := by simpa using hv
      have HF := Lib.hid (show idxI (fun x => x == v) xs = i from idxI_at _ _ i x HN.out HX.out (by simp [hv]))
      clear hv
      go_wp2_with fail
      go_ret
      exact ⟨ret_i HF.out.symm, rfl⟩
    · have hb : (v == x) = false := by simpa using hv
      have HNX := Lib.hid (take_none HN.out HX.out (show (x == v) = false by simp; exact fun e => hv e.symm))
      clear hv
      go_wp2_with fail
      go_roundw
      case rel => exact ⟨i + 1, by have := HL.out; omega, by simp, HNX.out, rfl⟩
      case measure => simp only [toM]; omega
theorem within_any (w : World) (n lo hi : Int) : Calls Tryz.prog 82 #[.int .i64 n, .int .i64 lo, .int .i64 hi] w (fun e w' => e = .returned (.bool (decide (lo ≤ n) && decide (n ≤ hi))) ∧ w = w') := by
  go_enter Tryz.func82, Tryz.ntmps82
  by_cases h1 : lo ≤ n
  · have g1 : decide (lo ≤ n) = true := by simpa using h1
    go_wp2
    go_ret
    simp [g1]
  · have g1 : decide (lo ≤ n) = false := by simpa using h1
    go_wp2
    go_ret
    simp
def CoR (w1 : World) (L : List (List Wd)) (s3 s13 : Value) (w' : World) : Prop := ∃ i : Nat, i ≤ L.length ∧ s13 = .int .i64 i ∧ s3 = .int .i64 (wordsN (L.take i) : Nat) ∧ w1 = w'
theorem wordsN_take (L : List (List Wd)) (i : Nat) {p : List Wd} (h : L[i]? = some p) : wordsN (L.take (i + 1)) = wordsN (L.take i) + p.length := by
  unfold wordsN
  rw [List.take_add_one, h]
  simp
theorem wordsN_le (L : List (List Wd)) (i : Nat) : wordsN (L.take i) ≤ wordsN L := by
  unfold wordsN
  conv => rhs; rw [← List.take_append_drop i L]
  rw [List.map_append, List.sum_append]
  omega
set_option maxHeartbeats 4000000 in
set_option maxRecDepth 100000 in
theorem count_any (P : Nat → Prop) (w : World) (A A' : Option Addr) (n n' c c' : Nat) (t : Tx) (h1 : kWs.row w P A n t.paras) (h2 : kWs.row w P A' n' t.notes) (hp : t.paras.length ≤ 10000) (hn : t.notes.length ≤ 10000) (hb : wordsN (t.paras ++ t.notes) ≤ 1000000) :
    Calls Tryz.prog 31 #[.agg #[.slice A n c, .slice A' n' c']] w (fun e w' => e = .returned (.int .i64 (wordsN (t.paras ++ t.notes) : Nat)) ∧ Ext w w') := by
  have HC := Lib.hid (fun X (hx : Ext w X) g hg g0 g1 => cat72 kWs rfl P X g A A' n n' c c' _ _ (Lay.row_ext h1 hx) (Lay.row_ext h2 hx) (by have := Lay.row_len h1; omega) (by have := Lay.row_len h2; omega) hg g0 g1)
  obtain ⟨L, hLe⟩ : ∃ L, t.paras ++ t.notes = L := ⟨_, rfl⟩
  obtain ⟨m, hm⟩ : ∃ m, L.length = m := ⟨_, rfl⟩
  have hm2 : m ≤ 20000 := by rw [← hm, ← hLe, List.length_append]; omega
  rw [hLe] at HC
  rw [hLe] at hb ⊢
  have HM := Lib.hid hm
  have HB := Lib.hid hb
  have HC2 := Lib.hid (fun X (hx : Ext w X) g hg g0 g1 => (show Calls Tryz.prog 72 #[.slice (some ⟨g, 0, none⟩) 2 2] X (fun e X' => ∃ A3 c3, e = .returned (.slice A3 m c3) ∧ kWs.row X' (fun j => P j ∨ X.heap.size ≤ j) A3 m L ∧ Ext X X') from by
    refine (HC.out X hx g hg g0 g1).mono ?_
    rintro e X' ⟨A3, c3, rfl, ho, hxx⟩
    obtain ⟨Ar, cr, er, _, hrow⟩ := Lay.own_row ho
    obtain ⟨e1, _, _⟩ := Value.slice.inj er
    subst hm
    rw [← e1] at hrow
    exact ⟨A3, c3, rfl, Lay.row_mono hrow fun j hj _ => hj.imp id fun hj => (Lay.own_lt ho j hj).1, hxx⟩))
  clear h1 h2 hp hn hLe hm hb HC
  go_enter Tryz.func31, Tryz.ntmps31
  go_wp2_with (first | (go_at_call 72; refine (HC2.out _ (((Ext.refl w).alloc _).alloc _) _ (by simp) (by go_simp) (by go_simp)).mono ?_; rintro e w1 ⟨A3, c3, rfl, hrow, hx⟩; have HRW := Lib.hid hrow; have HX := Lib.hid ((((Ext.refl w).alloc _).alloc _).trans hx); clear hrow hx))
  go_loopw [3, 5, 13] (fun s3 _ s13 w' => CoR w1 L s3 s13 w') (fun _ _ s13 _ => toM m s13)
  case atStart => exact ⟨0, by omega, rfl, by simp [wordsN], rfl⟩
  case round =>
    obtain ⟨i, hi, rfl, rfl, rfl⟩ := hrel
    rw [HM.out] at hi
    have hq1 := wordsN_le L i
    have hq2 := HB.out
    obtain ⟨q, hq⟩ : ∃ q, wordsN (L.take i) = q := ⟨_, rfl⟩
    rw [hq] at hq1 ⊢
    have HQ := Lib.hid hq
    clear hq
    by_cases hlt : i < m
    case neg =>
      obtain rfl : i = m := by omega
      have hni : ¬ ((i : Int) < (i : Int)) := by omega
      have HF := Lib.hid (show ((wordsN L : Nat) : Int) = (q : Int) by rw [← HQ.out, ← HM.out, List.take_length])
      go_wp2_with fail
      go_ret
      exact ⟨ret_i HF.out.symm, HX.out⟩
    have hI : (i : Int) < (m : Int) := by omega
    obtain ⟨p, hpi⟩ : ∃ p, L[i]? = some p := ⟨_, List.getElem?_eq_getElem (by have := HM.out; omega)⟩
    obtain ⟨bl, ol, cl, rfl, hbl, _, hrl, hcl⟩ := Lay.row_at HRW.out hpi
    obtain ⟨Ap, cp, rfl, _, _⟩ := kWs_rep.1 hrl
    have e0 := hcl 0 _ rfl
    rw [show kWs.sz = 1 from rfl, Nat.mul_one, Nat.add_zero] at e0
    have HST := Lib.hid (wordsN_take L i hpi)
    have hq3 := wordsN_le L (i + 1)
    rw [HST.out, HQ.out] at hq3
    have HPI := Lib.hid hpi
    clear hcl hrl hpi
    go_wp2_with fail
    go_roundw
    case rel => exact ⟨i + 1, by have := HM.out; omega, by simp, by rw [HST.out, HQ.out]; simp, rfl⟩
    case measure => simp only [toM]; omega
end
end Go.Proofs.YtdbnddmncbjobaaGreatDoor