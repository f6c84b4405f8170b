/- Plain law: cut off texts, texts that are woven anew, what stands between tokens. -/
import Derived.Test.YtbmcplnfamgpcaaDoorPlain3
namespace Go.Proofs.YtbmcplnfamgpcaaDoor
open Go

/-! ### An error stays where it is -/
theorem lex_sep_err (c : UInt8) (t : List UInt8) (hc : sepc c = true) : ∀ (m : Nat) (s : List UInt8), s.length ≤ m → ∀ k, (lexW k s).e ≠ 0 → lexW k (s ++ c :: t) = lexW k s := by
  have sep : SepHead (c :: t) := fun x hx => by
    obtain rfl : c = x := by simpa using hx
    exact hc
  intro m
  induction m with
  | zero =>
    intro s hs k he
    obtain rfl : s = [] := List.length_eq_zero_iff.1 (by omega)
    rw [lex_end (k := k) (s := []) rfl] at he
    exact absurd rfl he
  | succ m ih =>
    intro s hs k he
    rcases lex_cases k s with ⟨h0, h1⟩ | ⟨e, h0, ht, _, h1⟩ | ⟨kd, n, v, h0, ht, hn, hnl, h1⟩
    · rw [h1] at he; exact absurd rfl he
    · have hs2 := skipB_app2 false s (c :: t) h0
      rw [h1, lex_err (s := s ++ c :: t) (by rw [hs2]; simp) (by rw [hs2, tok1_app h0 sep]; exact ht), hs2]
      have := skipB_len false s
      congr 2
      simp only [List.length_append]
      omega
    · have hs2 := skipB_app2 false s (c :: t) h0
      have hl := skipB_len false s
      have hr := rest_lt h0 hn
      rw [h1, put_e] at he
      have g := ih ((skipB false s).drop n) (by omega) _ he
      rw [h1, lex_ok (s := s ++ c :: t) (by rw [hs2]; simp) (by rw [hs2, tok1_app h0 sep]; exact ht) hn, hs2, List.drop_append_of_le_length hnl, List.take_append_of_le_length hnl]
      rw [show (s ++ c :: t).length - (skipB false s ++ c :: t).length = s.length - (skipB false s).length by simp only [List.length_append]; omega, g]
theorem skipB_take : ∀ (cm : Bool) (s : List UInt8) (m : Nat), skipB cm (s.take (s.length - (skipB cm s).length + m)) = (skipB cm s).take m
  | _, [], _ => by simp [skipB]
  | cm, c :: r, m => by
    have step : ∀ b, skipB cm (c :: r) = skipB b r → (∀ x, skipB cm (c :: x) = skipB b x) → skipB cm ((c :: r).take ((c :: r).length - (skipB cm (c :: r)).length + m)) = (skipB cm (c :: r)).take m := fun b h hx => by
      have h1 := skipB_len b r
      rw [h, List.length_cons, show r.length + 1 - (skipB b r).length + m = (r.length - (skipB b r).length + m) + 1 by omega, List.take_succ_cons, hx]
      exact skipB_take b r m
    by_cases hc : c = 10
    · exact step false (by rw [skipB, if_pos hc]) (fun x => by rw [skipB, if_pos hc])
    · by_cases h35 : c = 35
      · exact step true (by rw [skipB, if_neg hc, if_pos h35]) (fun x => by rw [skipB, if_neg hc, if_pos h35])
      · by_cases hb : (cm || blk c) = true
        · exact step cm (by rw [skipB, if_neg hc, if_neg h35, if_pos hb]) (fun x => by rw [skipB, if_neg hc, if_neg h35, if_pos hb])
        · have e : ∀ x, skipB cm (c :: x) = c :: x := fun x => by rw [skipB, if_neg hc, if_neg h35, if_neg hb]
          rw [e r, Nat.sub_self, Nat.zero_add]
          cases m with
          | zero => rfl
          | succ m => rw [List.take_succ_cons, e]
/-- Ahead of an error there is none. -/
theorem lex_before : ∀ (m : Nat) (s : List UInt8), s.length ≤ m → ∀ k, (lexW k s).e ≠ 0 → ∃ n, n < s.length ∧ (lexW k s).off = (k + n : Nat) ∧ (lexW k s).l = [] ∧ (lexW k (s.take n)).e = 0 := by
  intro m
  induction m with
  | zero =>
    intro s hs k he
    obtain rfl : s = [] := List.length_eq_zero_iff.1 (by omega)
    rw [lex_end (k := k) (s := []) rfl] at he
    exact absurd rfl he
  | succ m ih =>
    intro s hs k he
    have hl := skipB_len false s
    rcases lex_cases k s with ⟨h0, h1⟩ | ⟨e, h0, ht, _, h1⟩ | ⟨kd, n, v, h0, ht, hn, hnl, h1⟩
    · rw [h1] at he; exact absurd rfl he
    · have hp : 0 < (skipB false s).length := List.length_pos_iff.2 h0
      refine ⟨s.length - (skipB false s).length, by omega, by rw [h1], by rw [h1], ?_⟩
      have := skipB_take false s 0
      rw [Nat.add_zero, List.take_zero] at this
      rw [lex_end this]
    · have hr := rest_lt h0 hn
      rw [h1, put_e] at he
      obtain ⟨n', g1, g2, g3, g4⟩ := ih ((skipB false s).drop n) (by omega) _ he
      rw [List.length_drop] at g1
      refine ⟨s.length - (skipB false s).length + (n + n'), by omega, ?_, ?_, ?_⟩
      · rw [h1, put_err he, g2]; congr 1; omega
      · rw [h1, put_err he, g3]
      · have hk := skipB_take false s (n + n')
        have hne : (skipB false s).take (n + n') ≠ [] := by
          intro e
          have := congrArg List.length e
          rw [List.length_take, List.length_nil, Nat.min_eq_left (by omega)] at this
          omega
        rw [lex_ok (s := s.take (s.length - (skipB false s).length + (n + n'))) (by rw [hk]; exact hne) (by rw [hk]; exact tok1_take ht (by omega)) hn, put_e, hk, List.length_take, List.length_take, List.drop_take, show n + n' - n = n' by omega]
        rw [show k + (min (s.length - (skipB false s).length + (n + n')) s.length - min (n + n') (skipB false s).length) + n = k + (s.length - (skipB false s).length) + n by omega]
        exact g4

/-! ### Tokens but for their places -/
def tri (t : Tk) : Int × List UInt8 × Int := (t.kd, t.tx, t.nm)
def endP : Int × List UInt8 × Int := (0, [], 0)
theorem lex_shift : ∀ (m : Nat) (s : List UInt8), s.length ≤ m → ∀ k k', (lexW k s).e = (lexW k' s).e ∧ (lexW k s).l.map tri = (lexW k' s).l.map tri := by
  intro m
  induction m with
  | zero =>
    intro s hs k k'
    obtain rfl : s = [] := List.length_eq_zero_iff.1 (by omega)
    rw [lex_end (k := k) (s := []) rfl, lex_end (k := k') (s := []) rfl]
    exact ⟨rfl, rfl⟩
  | succ m ih =>
    intro s hs k k'
    by_cases h0 : skipB false s = []
    · rw [lex_end h0, lex_end h0]; exact ⟨rfl, rfl⟩
    · cases ht : tok1 (skipB false s) with
      | err e => rw [lex_err h0 ht, lex_err h0 ht]; exact ⟨rfl, rfl⟩
      | ok kd n v =>
        have hn := (tok1_len ht).1
        have hr := rest_lt h0 hn
        obtain ⟨g1, g2⟩ := ih ((skipB false s).drop n) (by omega) (k + (s.length - (skipB false s).length) + n) (k' + (s.length - (skipB false s).length) + n)
        rw [lex_ok h0 ht hn, lex_ok (k := k') h0 ht hn, put_e, put_e]
        refine ⟨g1, ?_⟩
        by_cases he : (lexW (k + (s.length - (skipB false s).length) + n) ((skipB false s).drop n)).e = 0
        · rw [put_ok he, put_ok (g1 ▸ he)]
          simp only [List.map_cons, g2]; rfl
        · rw [put_err he, put_err (g1 ▸ he), g2]
/-- The tokens of a text without an error. -/
def TokOK (t : Tk) : Prop := t.tx ≠ [] ∧ t.kd ≠ 0 ∧ tok1 t.tx = .ok t.kd t.tx.length t.nm
theorem tok1_kind {s : List UInt8} {kd : Int} {n : Nat} {v : Int} (h : tok1 s = .ok kd n v) : 1 ≤ kd ∧ kd ≤ 4 := by
  cases s with
  | nil => cases h
  | cons c r =>
    rw [tok1_cons] at h
    repeat' split at h
    all_goals first | (injection h with h1 _ _; subst h1; decide) | cases h
theorem tok1_ok {s : List UInt8} {kd : Int} {n : Nat} {v : Int} (h : tok1 s = .ok kd n v) (a : Int) : TokOK ⟨kd, a, s.take n, v⟩ := by
  obtain ⟨h1, h2⟩ := tok1_len h
  have hl : (s.take n).length = n := by rw [List.length_take]; omega
  refine ⟨fun e => ?_, ?_, ?_⟩
  · have := congrArg List.length e
    rw [hl] at this; simp at this; omega
  · have := tok1_kind h; show kd ≠ 0; omega
  · show tok1 (s.take n) = .ok kd (s.take n).length v
    rw [hl]; exact tok1_take h (Nat.le_refl _)
theorem lex_toks : ∀ (m : Nat) (s : List UInt8), s.length ≤ m → ∀ k, (lexW k s).e = 0 → (lexW k s).off = 0 ∧ ∃ ts, (lexW k s).l = ts ++ [endT (k + s.length)] ∧ ∀ t ∈ ts, TokOK t := by
  intro m
  induction m with
  | zero =>
    intro s hs k he
    obtain rfl : s = [] := List.length_eq_zero_iff.1 (by omega)
    rw [lex_end (k := k) (s := []) rfl]
    exact ⟨rfl, [], rfl, fun t h => by cases h⟩
  | succ m ih =>
    intro s hs k he
    have hl := skipB_len false s
    rcases lex_cases k s with ⟨h0, h1⟩ | ⟨e, h0, ht, hne, h1⟩ | ⟨kd, n, v, h0, ht, hn, hnl, h1⟩
    · rw [h1]; exact ⟨rfl, [], rfl, fun t h => by cases h⟩
    · rw [h1] at he; exact absurd he hne
    · have hr := rest_lt h0 hn
      rw [h1, put_e] at he
      obtain ⟨g1, ts, g2, g3⟩ := ih ((skipB false s).drop n) (by omega) _ he
      rw [h1, put_ok he]
      refine ⟨g1, ⟨kd, (k + (s.length - (skipB false s).length) : Nat), (skipB false s).take n, v⟩ :: ts, ?_, ?_⟩
      · show _ :: _ = _
        rw [g2, List.length_drop, show k + (s.length - (skipB false s).length) + n + ((skipB false s).length - n) = k + s.length by omega]
        rfl
      · intro t ht2
        rcases List.mem_cons.1 ht2 with rfl | h
        · exact tok1_ok ht _
        · exact g3 t h

/-! ### Weaving -/
def weave : List (List UInt8 × List UInt8) → List UInt8 → List UInt8
  | [], u => u
  | (g, x) :: ts, u => g ++ (x ++ weave ts u)
def Gap (g : List UInt8) : Prop := (∀ u, skipB false (g ++ u) = skipB false u) ∧ ∃ c r, g = c :: r ∧ sepc c = true
theorem weave_sep {ts : List (List UInt8 × List UInt8)} {u : List UInt8} (hg : ∀ p ∈ ts, Gap p.1) (hu : SepHead u) : SepHead (weave ts u) := by
  cases ts with
  | nil => exact hu
  | cons p ts =>
    obtain ⟨g, x⟩ := p
    obtain ⟨c, r, hgc, hc⟩ := (hg (g, x) (by simp)).2
    simp only at hgc
    subst hgc
    intro d hd
    obtain rfl : c = d := by simpa [weave] using hd
    exact hc
theorem skipB_gap {g t : List UInt8} (h : skipB false (g ++ t) = skipB false t) (k : Nat) : lexW k (g ++ t) = lexW (k + g.length) t := lex_skip h (by simp; omega)
theorem weave_lex {u : List UInt8} (hu : SepHead u) (hu0 : skipB false u = []) : ∀ (ts : List (List UInt8 × Tk)), (∀ p ∈ ts, Gap p.1 ∧ TokOK p.2) → ∀ k,
    (lexW k (weave (ts.map fun p => (p.1, p.2.tx)) u)).e = 0 ∧ (lexW k (weave (ts.map fun p => (p.1, p.2.tx)) u)).l.map tri = ts.map (fun p => tri p.2) ++ [endP]
  | [], _, k => by
    show (lexW k u).e = 0 ∧ (lexW k u).l.map tri = [endP]
    rw [lex_end hu0]; exact ⟨rfl, rfl⟩
  | (g, t) :: ts, h, k => by
    obtain ⟨hg, ht1, ht0, ht2⟩ := h (g, t) (by simp)
    have hr : ∀ p ∈ ts, Gap p.1 ∧ TokOK p.2 := fun p hp => h p (List.mem_cons_of_mem _ hp)
    have hsep : SepHead (weave (ts.map fun p => (p.1, p.2.tx)) u) := weave_sep (fun p hp => by
      obtain ⟨q, hq, rfl⟩ := List.mem_map.1 hp
      exact (hr q hq).1) hu
    show (lexW k (g ++ (t.tx ++ weave (ts.map fun p => (p.1, p.2.tx)) u))).e = 0 ∧ (lexW k (g ++ (t.tx ++ weave (ts.map fun p => (p.1, p.2.tx)) u))).l.map tri = tri t :: (ts.map (fun p => tri p.2) ++ [endP])
    have hta : tok1 (t.tx ++ weave (ts.map fun p => (p.1, p.2.tx)) u) = .ok t.kd t.tx.length t.nm := by rw [tok1_app ht1 hsep]; exact ht2
    have hsk := skip_tok hta
    have hn := (tok1_len ht2).1
    rw [skipB_gap (hg.1 _), lex_ok (by rw [hsk]; simp [ht1]) (by rw [hsk]; exact hta) hn, hsk, Nat.sub_self, Nat.add_zero, List.drop_left, List.take_left]
    obtain ⟨i1, i2⟩ := weave_lex hu hu0 ts hr (k + g.length + t.tx.length)
    rw [put_e, put_ok i1]
    refine ⟨i1, ?_⟩
    rw [List.map_cons, i2]
    rfl
theorem gap_blank : Gap [32] := ⟨fun u => by rw [List.singleton_append, skipB, if_neg (by decide), if_neg (by decide)]; rfl, 32, [], rfl, by decide⟩

/-! ### White space and comments alone -/
def idleP : Bool → List UInt8 → Bool
  | _, [] => true
  | cm, c :: r => if !(decide (c = 35) || (cm && !decide (c = 10))) && !blk c then false else idleP (decide (c = 35) || (cm && !decide (c = 10))) r
theorem idle_skip : ∀ (cm : Bool) (s : List UInt8), idleP cm (s.take (s.length - (skipB cm s).length)) = true
  | _, [] => rfl
  | cm, c :: r => by
    have step : ∀ b, skipB cm (c :: r) = skipB b r → (∀ x, idleP cm (c :: x) = idleP b x) → idleP cm ((c :: r).take ((c :: r).length - (skipB cm (c :: r)).length)) = true := fun b h hx => by
      have h1 := skipB_len b r
      rw [h, List.length_cons, show r.length + 1 - (skipB b r).length = (r.length - (skipB b r).length) + 1 by omega, List.take_succ_cons, hx]
      exact idle_skip b r
    by_cases hc : c = 10
    · exact step false (by rw [skipB, if_pos hc]) (fun x => by rw [idleP, hc]; simp [blk])
    · by_cases h35 : c = 35
      · exact step true (by rw [skipB, if_neg hc, if_pos h35]) (fun x => by rw [idleP, h35]; simp)
      · by_cases hb : (cm || blk c) = true
        · refine step cm (by rw [skipB, if_neg hc, if_neg h35, if_pos hb]) (fun x => ?_)
          rw [idleP]
          cases cm with
          | true => simp [hc, h35]
          | false => have hb2 : blk c = true := by simpa using hb
                     simp [h35, hb2]
        · have e : skipB cm (c :: r) = c :: r := by rw [skipB, if_neg hc, if_neg h35, if_neg hb]
          rw [e, Nat.sub_self]; rfl
end Go.Proofs.YtbmcplnfamgpcaaDoor
