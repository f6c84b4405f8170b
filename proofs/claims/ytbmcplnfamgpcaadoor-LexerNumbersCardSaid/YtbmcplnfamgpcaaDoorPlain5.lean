/- Plain law: what the laws ask of the tokens. -/
import Derived.Test.YtbmcplnfamgpcaaDoorSh
namespace Go.Proofs.YtbmcplnfamgpcaaDoor
open Go

theorem lex_len : ∀ (m : Nat) (s : List UInt8), s.length ≤ m → ∀ k, (lexW k s).l.length ≤ s.length + 1 ∧ tot (lexW k s).l ≤ 2 * s.length + 1 := by
  intro m
  induction m with
  | zero =>
    intro s hs k
    obtain rfl : s = [] := List.length_eq_zero_iff.1 (by omega)
    rw [lex_end (k := k) (s := []) rfl]; simp [tot]
  | succ m ih =>
    intro s hs k
    have hl := skipB_len false s
    rcases lex_cases k s with ⟨h0, h1⟩ | ⟨e, h0, ht, hne, h1⟩ | ⟨kd, n, v, h0, ht, hn, hnl, h1⟩
    · rw [h1]; simp [tot, endT]
    · rw [h1]; simp [tot]
    · have hr := rest_lt h0 hn
      obtain ⟨g1, g2⟩ := ih ((skipB false s).drop n) (by omega) (k + (s.length - (skipB false s).length) + n)
      rw [List.length_drop] at g1 g2
      rw [h1]
      by_cases he : (lexW (k + (s.length - (skipB false s).length) + n) ((skipB false s).drop n)).e = 0
      · rw [put_ok he]
        refine ⟨by simp only [List.length_cons]; omega, ?_⟩
        simp only [tot]
        rw [List.length_take]; omega
      · rw [put_err he]; exact ⟨by omega, by omega⟩
theorem lexT_small {s : List UInt8} (h : s.length ≤ 4000) : lexT s = lexW 0 s := by rw [lexT, if_neg (by omega)]
theorem lexT_len (s : List UInt8) : (lexT s).l.length ≤ 4001 := by
  unfold lexT
  split
  · exact Nat.zero_le _
  · rename_i h
    have := (lex_len s.length s (Nat.le_refl _) 0).1; omega
theorem tail_weave (ts : List Tk) : Lib.joinTail [32] (ts.map Tk.tx) = weave (ts.map fun t => ([32], t.tx)) [] := by
  induction ts with
  | nil => rfl
  | cons u ts ih =>
    show ([32] ++ u.tx) ++ Lib.joinTail [32] (ts.map Tk.tx) = [32] ++ (u.tx ++ weave (ts.map fun t => ([32], t.tx)) [])
    rw [ih, List.append_assoc]
theorem show_weave (ts : List Tk) : 32 :: Lib.join (ts.map Tk.tx) [32] = if ts = [] then [32] else weave (ts.map fun t => ([32], t.tx)) [] := by
  cases ts with
  | nil => rfl
  | cons t ts =>
    rw [if_neg (by simp), List.map_cons, Lib.join_cons, tail_weave]
    rfl
theorem texts_toks {ts : List Tk} {k : Nat} (h : ∀ t ∈ ts, TokOK t) : texts (ts ++ [endT k]) = ts.map Tk.tx := by
  unfold texts
  rw [List.filter_append, List.map_append]
  have h1 : ts.filter (fun t => !decide (t.kd = 0)) = ts := List.filter_eq_self.2 (fun t ht => by have := (h t ht).2.1; simp [this])
  rw [h1]; simp [endT]
theorem sep_nil : SepHead [] := fun c h => by cases h
theorem round_law {s : List UInt8} (he : (lexW 0 s).e = 0) : (lexW 0 (showP (lexW 0 s).l)).e = 0 ∧ (lexW 0 (showP (lexW 0 s).l)).off = 0 ∧ (lexW 0 (showP (lexW 0 s).l)).l.map tri = (lexW 0 s).l.map tri := by
  obtain ⟨_, ts, h1, h2⟩ := lex_toks s.length s (Nat.le_refl _) 0 he
  have hs : showP (lexW 0 s).l = Lib.join (ts.map Tk.tx) [32] := by unfold showP; rw [h1, texts_toks h2]
  have hR : (lexW 0 s).l.map tri = ts.map tri ++ [endP] := by rw [h1, List.map_append]; rfl
  rw [hs, hR]
  have hw := show_weave ts
  have hb : lexW 0 (32 :: Lib.join (ts.map Tk.tx) [32]) = lexW 1 (Lib.join (ts.map Tk.tx) [32]) := lex_blank (by decide)
  obtain ⟨g1, g2⟩ := lex_shift _ (Lib.join (ts.map Tk.tx) [32]) (Nat.le_refl _) 0 1
  rw [← hb] at g1 g2
  have key : (lexW 0 (32 :: Lib.join (ts.map Tk.tx) [32])).e = 0 ∧ (lexW 0 (32 :: Lib.join (ts.map Tk.tx) [32])).l.map tri = ts.map tri ++ [endP] := by
    rw [hw]
    by_cases h0 : ts = []
    · rw [if_pos h0, h0]
      rw [lex_end (by rw [skipB]; simp; rfl)]
      exact ⟨rfl, rfl⟩
    · rw [if_neg h0]
      have := weave_lex (u := []) sep_nil rfl (ts.map fun t => ([32], t)) (fun p hp => by
        obtain ⟨t, ht, rfl⟩ := List.mem_map.1 hp
        exact ⟨gap_blank, h2 t ht⟩) 0
      rw [List.map_map, List.map_map] at this
      exact this
  have h3 : (lexW 0 (Lib.join (ts.map Tk.tx) [32])).e = 0 := by rw [g1]; exact key.1
  exact ⟨h3, (lex_toks _ _ (Nat.le_refl _) 0 h3).1, by rw [g2]; exact key.2⟩
theorem first_law {s : List UInt8} (he : (lexW 0 s).e ≠ 0) : ∃ n : Nat, n < s.length ∧ (lexW 0 s).off = n ∧ (lexW 0 (s.take n)).e = 0 ∧ ∀ t, lexW 0 (s ++ 32 :: t) = lexW 0 s := by
  obtain ⟨n, h1, h2, _, h4⟩ := lex_before s.length s (Nat.le_refl _) 0 he
  rw [Nat.zero_add] at h2
  exact ⟨n, h1, h2, h4, fun t => lex_sep_err 32 t (by decide) s.length s (Nat.le_refl _) 0 he⟩
theorem concat_law (s t : List UInt8) : ((lexW 0 s).e ≠ 0 ∨ (lexW 0 t).e ≠ 0 → (lexW 0 (s ++ 10 :: t)).e ≠ 0) ∧
    ((lexW 0 s).e = 0 → (lexW 0 t).e = 0 → (lexW 0 (s ++ 10 :: t)).e = 0 ∧ ∃ l, (lexW 0 s).l = l ++ [endT s.length] ∧ (lexW 0 (s ++ 10 :: t)).l.map tri = (l ++ (lexW 0 t).l).map tri) := by
  obtain ⟨h1, h2⟩ := lex_cat t s.length s (Nat.le_refl _) 0
  obtain ⟨g1, g2⟩ := lex_shift t.length t (Nat.le_refl _) (0 + s.length + 1) 0
  by_cases he : (lexW 0 s).e = 0
  · obtain ⟨l, h3, h4⟩ := h2 he
    by_cases hf : (lexW 0 t).e = 0
    · have hf' := g1.trans hf
      refine ⟨fun h => ?_, fun _ _ => ?_⟩
      · rcases h with h | h
        · exact absurd he h
        · exact absurd hf h
      · rw [h4, putAll_ok hf']
        refine ⟨rfl, l, ?_, ?_⟩
        · rw [h3, Nat.zero_add]
        · rw [List.map_append, g2, List.map_append]
    · refine ⟨fun _ => ?_, fun _ h => absurd h hf⟩
      have hf' : (lexW (0 + s.length + 1) t).e ≠ 0 := by rw [g1]; exact hf
      rw [h4, putAll_err hf']; exact hf'
  · exact ⟨fun _ => by rw [h1 he]; exact he, fun h => absurd h he⟩
end Go.Proofs.YtbmcplnfamgpcaaDoor
