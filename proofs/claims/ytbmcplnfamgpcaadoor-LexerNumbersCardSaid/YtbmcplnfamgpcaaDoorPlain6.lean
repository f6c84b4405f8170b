/- Plain law: no two tokens form the beginning of a longer one; where tokens stand. -/
import Derived.Test.YtbmcplnfamgpcaaDoorPlain5
namespace Go.Proofs.YtbmcplnfamgpcaaDoor
open Go

theorem tok1_k1 {d : UInt8} {r : List UInt8} {n : Nat} {v : Int} (h : tok1 (d :: r) = .ok 1 n v) : low d = true := by
  cases hl : low d with
  | true => rfl
  | false =>
    rw [tok1_cons, hl] at h
    repeat' split at h
    all_goals first | (exfalso; simp at *; done) | (injection h with h1 _ _; exact absurd h1 (by decide)) | cases h
theorem tok1_k2 {d : UInt8} {r : List UInt8} {n : Nat} {v : Int} (h : tok1 (d :: r) = .ok 2 n v) : dig d = true := by
  cases hl : dig d with
  | true => rfl
  | false =>
    rw [tok1_cons, hl] at h
    repeat' split at h
    all_goals first | (exfalso; simp at *; done) | (injection h with h1 _ _; exact absurd h1 (by decide)) | cases h
theorem drop_tw {p : UInt8 → Bool} {s r : List UInt8} {d : UInt8} (h : s.drop (s.takeWhile p).length = d :: r) : p d = false := by
  induction s with
  | nil => simp at h
  | cons c s ih =>
    rw [List.takeWhile_cons] at h
    split at h
    · rw [List.length_cons, List.drop_succ_cons] at h; exact ih h
    · rename_i hc
      rw [List.length_nil, List.drop_zero] at h
      injection h with h1 _
      rw [← h1]
      cases hp : p c with
      | false => rfl
      | true => exact absurd hp hc
theorem tok1_n1 {c : UInt8} {r : List UInt8} {n : Nat} {v : Int} (h : tok1 (c :: r) = .ok 1 n v) : n = ((c :: r).takeWhile wch).length := by
  rw [tok1_cons, if_pos (tok1_k1 h)] at h
  split at h
  · cases h
  · injection h with _ h2 _; exact h2.symm
theorem tok1_n2 {c : UInt8} {r : List UInt8} {n : Nat} {v : Int} (h : tok1 (c :: r) = .ok 2 n v) : n = ((c :: r).takeWhile dig).length := by
  have hd := tok1_k2 h
  have hl : low c = false := by
    rw [Bool.eq_false_iff]; intro hl
    have h1 := low_iff.1 hl; have h2 := dig_iff.1 hd; omega
  rw [tok1_cons, hl, if_neg (by decide), if_pos hd] at h
  split at h
  · cases h
  · split at h
    · cases h
    · injection h with _ h2 _; exact h2.symm
def Apart (ka : Int) (xa : List UInt8) (kb : Int) (xb : List UInt8) : Prop := ¬ (ka = 1 ∧ (kb = 1 ∨ kb = 2)) ∧ ¬ (ka = 2 ∧ kb = 2) ∧ ¬ ((xa = [60] ∨ xa = [62]) ∧ xb = [61])
theorem tok_apart {s : List UInt8} {ka kb : Int} {n m : Nat} {va vb : Int} (h : tok1 s = .ok ka n va) (h2 : tok1 (s.drop n) = .ok kb m vb) : Apart ka (s.take n) kb ((s.drop n).take m) := by
  cases s with
  | nil => cases h
  | cons c r =>
    cases hd : (c :: r).drop n with
    | nil => rw [hd] at h2; cases h2
    | cons d u =>
      rw [hd] at h2
      refine ⟨?_, ?_, ?_⟩
      · rintro ⟨rfl, hk⟩
        have hn := tok1_n1 h
        rw [hn] at hd
        have hw := drop_tw hd
        rcases hk with rfl | rfl
        · have := tok1_k1 h2; simp [wch, this] at hw
        · have := tok1_k2 h2; simp [wch, this] at hw
      · rintro ⟨rfl, rfl⟩
        have hn := tok1_n2 h
        rw [hn] at hd
        have hw := drop_tw hd
        rw [tok1_k2 h2] at hw; cases hw
      · rintro ⟨hx, hy⟩
        have hm : d = 61 := by
          have hm1 := (tok1_len h2).1
          obtain ⟨m, rfl⟩ : ∃ i, m = i + 1 := ⟨m - 1, by omega⟩
          rw [List.take_succ_cons] at hy
          injection hy
        have hn1 := (tok1_len h).1
        have key : ∀ x : UInt8, (x = 60 ∨ x = 62) → (c :: r).take n = [x] → False := by
          intro x hq hs
          have hlen := congrArg List.length hs
          have hle := (tok1_len h).2
          rw [List.length_take, Nat.min_eq_left hle] at hlen
          have hlen : n = 1 := hlen
          subst hlen
          rw [List.take_succ_cons] at hs
          injection hs with hc _
          rw [List.drop_succ_cons, List.drop_zero] at hd
          subst hd
          have hsym : symN (c :: d :: u) = 2 := by
            rw [symN_cons, if_pos ⟨by rw [hc]; rcases hq with rfl | rfl <;> decide, by rw [hm]; rfl⟩]
          have hl : low c = false := by rw [hc]; rcases hq with rfl | rfl <;> decide
          have hg : dig c = false := by rw [hc]; rcases hq with rfl | rfl <;> decide
          have h64 : c ≠ 64 := by rw [hc]; rcases hq with rfl | rfl <;> decide
          rw [tok1_cons, hl, hg, if_neg (by decide), if_neg (by decide), if_neg h64, hsym, if_neg (by decide)] at h
          injection h with _ h2 _
          exact absurd h2 (by decide)
        rcases hx with hx | hx
        · exact key 60 (.inl rfl) hx
        · exact key 62 (.inr rfl) hx
/-- Neighbours that touch are no longer token. -/
theorem lex_apart : ∀ (m : Nat) (s : List UInt8), s.length ≤ m → ∀ k, (lexW k s).e = 0 → ∀ (i : Nat) (a b : Tk), (lexW k s).l[i]? = some a → (lexW k s).l[i + 1]? = some b → a.at_ + a.tx.length = b.at_ → b.tx ≠ [] → Apart a.kd a.tx b.kd b.tx := by
  intro m
  induction m with
  | zero =>
    intro s hs k he i a b ha hb
    obtain rfl : s = [] := List.length_eq_zero_iff.1 (by omega)
    rw [lex_end (k := k) (s := []) rfl] at hb
    simp at hb
  | succ m ih =>
    intro s hs k he i a b ha hb hat hbx
    rcases lex_cases k s with ⟨h0, h1⟩ | ⟨e, h0, ht, hne, h1⟩ | ⟨kd, n, v, h0, ht, hn, hnl, h1⟩
    · rw [h1] at hb; simp at hb
    · rw [h1] at he; exact absurd he hne
    · have hr := rest_lt h0 hn
      rw [h1, put_e] at he
      rw [h1, put_ok he] at ha hb
      cases i with
      | succ i => exact ih ((skipB false s).drop n) (by omega) _ he i a b (by simpa using ha) (by simpa using hb) hat hbx
      | zero =>
        obtain rfl : (⟨kd, (k + (s.length - (skipB false s).length) : Nat), (skipB false s).take n, v⟩ : Tk) = a := by simpa using ha
        have hb' : (lexW (k + (s.length - (skipB false s).length) + n) ((skipB false s).drop n)).l[0]? = some b := by simpa using hb
        rcases lex_cases (k + (s.length - (skipB false s).length) + n) ((skipB false s).drop n) with ⟨_, g1⟩ | ⟨e, _, _, gne, g1⟩ | ⟨kd', n', v', g0, gt, gn, gnl, g1⟩
        · rw [g1] at hb'
          obtain rfl : endT _ = b := by simpa using hb'
          exact absurd rfl hbx
        · rw [g1] at he; exact absurd he gne
        · rw [g1, put_e] at he
          rw [g1, put_ok he] at hb'
          obtain rfl := (by simpa using hb' : _ = b)
          simp only at hat hbx ⊢
          rw [List.length_take, Nat.min_eq_left hnl] at hat
          have hsk : skipB false ((skipB false s).drop n) = (skipB false s).drop n := by
            have := skipB_drop false ((skipB false s).drop n)
            have hz : ((skipB false s).drop n).length - (skipB false ((skipB false s).drop n)).length = 0 := by rw [List.length_drop]; omega
            rw [hz, List.drop_zero] at this
            exact this.symm
          rw [hsk] at gt ⊢
          exact tok_apart ht gt
/-- Where tokens stand. -/
theorem lex_at : ∀ (m : Nat) (s : List UInt8), s.length ≤ m → ∀ k, ∀ t ∈ (lexW k s).l, ∃ p : Nat, t.at_ = p ∧ k ≤ p ∧ p + t.tx.length ≤ k + s.length := by
  intro m
  induction m with
  | zero =>
    intro s hs k t ht
    obtain rfl : s = [] := List.length_eq_zero_iff.1 (by omega)
    rw [lex_end (k := k) (s := []) rfl] at ht
    obtain rfl := by simpa using ht
    exact ⟨k, by simp, Nat.le_refl _, by simp⟩
  | succ m ih =>
    intro s hs k t ht
    have hl := skipB_len false s
    rcases lex_cases k s with ⟨h0, h1⟩ | ⟨e, h0, _, hne, h1⟩ | ⟨kd, n, v, h0, _, hn, hnl, h1⟩
    · rw [h1] at ht
      obtain rfl : t = endT _ := by simpa using ht
      exact ⟨_, rfl, by omega, by simp [endT]⟩
    · rw [h1] at ht; cases ht
    · have hr := rest_lt h0 hn
      rw [h1] at ht
      have hrest : ∀ t ∈ (lexW (k + (s.length - (skipB false s).length) + n) ((skipB false s).drop n)).l, ∃ p : Nat, t.at_ = p ∧ k ≤ p ∧ p + t.tx.length ≤ k + s.length := fun t ht => by
        obtain ⟨p, h1, h2, h3⟩ := ih _ (by omega) _ t ht
        rw [List.length_drop] at h3
        exact ⟨p, h1, by omega, by omega⟩
      by_cases he : (lexW (k + (s.length - (skipB false s).length) + n) ((skipB false s).drop n)).e = 0
      · rw [put_ok he] at ht
        rcases List.mem_cons.1 ht with rfl | ht
        · exact ⟨_, rfl, by omega, by rw [List.length_take]; omega⟩
        · exact hrest t ht
      · rw [put_err he] at ht; exact hrest t ht
end Go.Proofs.YtbmcplnfamgpcaaDoor
