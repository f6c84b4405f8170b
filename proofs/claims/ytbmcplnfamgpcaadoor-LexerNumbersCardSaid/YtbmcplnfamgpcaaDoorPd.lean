/- Plain law: numbers and dates as texts. -/
import Derived.Test.YtbmcplnfamgpcaaDoorPlain6
import Derived.Test.YtbmcplnfamgpcaaDoorCal
import Derived.Test.YtbmcplnfamgpcaaDoorLd
import Derived.Lib.ItoaNum
import Derived.Lib.Repeat
namespace Go.Proofs.YtbmcplnfamgpcaaDoor
open Go

def dg (k : Nat) : UInt8 := UInt8.ofNat (48 + k)
theorem dg_nat {k : Nat} (h : k < 10) : (dg k).toNat = 48 + k := by
  unfold dg; rw [UInt8.toNat_ofNat']; omega
theorem dg_dig {k : Nat} (h : k < 10) : dig (dg k) = true := dig_iff.2 (by rw [dg_nat h]; omega)
theorem dec_one {n : Nat} (h : n < 10) : Lib.decDigits n = [dg n] := Lib.decDigits_one h
theorem dec_more {n : Nat} (h : ¬ n < 10) : Lib.decDigits n = Lib.decDigits (n / 10) ++ [dg (n % 10)] := by
  conv => lhs; rw [Lib.decDigits, dif_neg h]
  rfl
theorem dec_all : ∀ (m n : Nat), n ≤ m → dval 0 (Lib.decDigits n) = n ∧ (Lib.decDigits n).all dig = true ∧ Lib.decDigits n ≠ [] ∧ (1 ≤ n → (Lib.decDigits n).head? ≠ some 48) := by
  intro m
  induction m with
  | zero =>
    intro n h
    obtain rfl : n = 0 := by omega
    rw [dec_one (by omega)]
    exact ⟨by decide, by decide, by simp, fun h => absurd h (by omega)⟩
  | succ m ih =>
    intro n h
    by_cases h10 : n < 10
    · rw [dec_one h10]
      refine ⟨?_, ?_, by simp, fun h1 => ?_⟩
      · rw [dval_cons, dval_nil, dg_nat h10]; omega
      · simp [dg_dig h10]
      · rw [List.head?_cons]
        intro e
        have h2 : dg n = 48 := Option.some.inj e
        have := congrArg UInt8.toNat h2
        rw [dg_nat h10] at this
        have h3 : (48 : UInt8).toNat = 48 := rfl
        omega
    · obtain ⟨g1, g2, g3, g4⟩ := ih (n / 10) (by omega)
      rw [dec_more h10]
      refine ⟨?_, ?_, by simp, fun _ => ?_⟩
      · rw [dval_snoc, g1, dg_nat (by omega)]; omega
      · rw [List.all_append, g2]; simp [dg_dig (show n % 10 < 10 by omega)]
      · rw [List.head?_append]
        have := g4 (by omega)
        cases hx : (Lib.decDigits (n / 10)).head? with
        | none => rw [List.head?_eq_none_iff] at hx; exact absurd hx g3
        | some c => rw [hx] at this; simpa using this
theorem lex_single {s : List UInt8} {k v : Int} (h : tok1 s = .ok k s.length v) : lexW 0 s = ⟨[⟨k, 0, s, v⟩, endT s.length], 0, 0⟩ := by
  have hsk : skipB false s = s := by
    have := skip_tok (x := s) (t := []) (by rw [List.append_nil]; exact h)
    rwa [List.append_nil] at this
  have hn := (tok1_len h).1
  have hne : s ≠ [] := by
    rintro rfl
    simp at hn
  rw [lex_ok (by rw [hsk]; exact hne) (by rw [hsk]; exact h) hn, hsk, List.drop_length, lex_end rfl, put_ok rfl, List.take_length]
  simp [endT]
theorem tw_full {p : UInt8 → Bool} {s : List UInt8} (h : s.all p = true) : s.takeWhile p = s := by
  induction s with
  | nil => rfl
  | cons c s ih =>
    rw [List.all_cons, Bool.and_eq_true] at h
    rw [List.takeWhile_cons, h.1, ih h.2]; rfl
/-- A number's text is one token. -/
theorem num_tok {n : Nat} (hn : n ≤ 2147483647) : tok1 (Lib.decDigits n) = .ok 2 (Lib.decDigits n).length n := by
  obtain ⟨g1, g2, g3, g4⟩ := dec_all n n (Nat.le_refl _)
  cases hx : Lib.decDigits n with
  | nil => exact absurd hx g3
  | cons c r =>
    rw [hx] at g1 g2 g4
    have hd : dig c = true := by simp at g2; exact g2.1
    have hl : low c = false := by
      rw [Bool.eq_false_iff]; intro hl
      have h1 := low_iff.1 hl; have h2 := dig_iff.1 hd; omega
    rw [tok1_cons, hl, if_neg (by decide), if_pos hd, tw_full g2, g1, if_neg, if_neg (by omega)]
    rintro ⟨h1, h2⟩
    have h3 : ¬ 1 ≤ n := fun h => g4 h (by rw [h2]; rfl)
    have h4 : n = 0 := by omega
    subst h4
    rw [dec_one (by omega)] at hx
    injection hx with _ hr
    subst hr
    simp at h1
def padL (n k : Nat) : List UInt8 := Lib.repeatL [48] (k - (Lib.decDigits n).length) ++ Lib.decDigits n
theorem dg0 : dg 0 = 48 := by decide
theorem pad2 {n : Nat} (h : n < 100) : padL n 2 = [dg (n / 10), dg (n % 10)] := by
  unfold padL
  by_cases h1 : n < 10
  · rw [dec_one h1, show n / 10 = 0 by omega, show n % 10 = n by omega, dg0]; rfl
  · rw [dec_more h1, dec_one (show n / 10 < 10 by omega)]; rfl
theorem pad4 {n : Nat} (h : n < 10000) : padL n 4 = [dg (n / 1000), dg (n / 100 % 10), dg (n / 10 % 10), dg (n % 10)] := by
  unfold padL
  by_cases h1 : n < 10
  · rw [dec_one h1, show n / 1000 = 0 by omega, show n / 100 % 10 = 0 by omega, show n / 10 % 10 = 0 by omega, show n % 10 = n by omega, dg0]; rfl
  · by_cases h2 : n < 100
    · rw [dec_more h1, dec_one (show n / 10 < 10 by omega), show n / 1000 = 0 by omega, show n / 100 % 10 = 0 by omega, show n / 10 % 10 = n / 10 by omega, dg0]; rfl
    · by_cases h3 : n < 1000
      · rw [dec_more h1, dec_more (show ¬ n / 10 < 10 by omega), dec_one (show n / 10 / 10 < 10 by omega), show n / 1000 = 0 by omega, show n / 100 % 10 = n / 10 / 10 by omega, dg0]; rfl
      · rw [dec_more h1, dec_more (show ¬ n / 10 < 10 by omega), dec_more (show ¬ n / 10 / 10 < 10 by omega), dec_one (show n / 10 / 10 / 10 < 10 by omega), show n / 1000 = n / 10 / 10 / 10 by omega, show n / 100 % 10 = n / 10 / 10 % 10 by omega]; rfl
def dtx (y m d : Nat) : List UInt8 := padL y 4 ++ (45 :: (padL m 2 ++ (45 :: padL d 2)))
theorem dtx_list {y m d : Nat} (hy : y < 10000) (hm : m < 100) (hd : d < 100) : dtx y m d = [dg (y / 1000), dg (y / 100 % 10), dg (y / 10 % 10), dg (y % 10), 45, dg (m / 10), dg (m % 10), 45, dg (d / 10), dg (d % 10)] := by
  unfold dtx; rw [pad4 hy, pad2 hm, pad2 hd]; rfl
/-- A date's text is one token. -/
theorem day_tok {y m d : Nat} (hb : dateB y m d = true) : tok1 (64 :: dtx y m d) = .ok 3 (64 :: dtx y m d).length (dayNo y m d : Nat) := by
  have hi : y ≤ 9999 ∧ m ≤ 12 ∧ d ≤ 31 := by
    have h := hb
    simp only [dateB, Bool.and_eq_true, decide_eq_true_eq] at h
    have := mlen_le y m
    omega
  have hl := dtx_list (y := y) (m := m) (d := d) (by omega) (by omega) (by omega)
  have hdat : dated (64 :: dtx y m d) = true := by
    rw [hl, dated11]
    exact ⟨dg_dig (by omega), dg_dig (by omega), dg_dig (by omega), dg_dig (by omega), rfl, dg_dig (by omega), dg_dig (by omega), rfl, dg_dig (by omega), dg_dig (by omega)⟩
  have hday : dayP (((64 :: dtx y m d).drop 1).take 10) = some (dayNo y m d) := by
    rw [hl]
    have ey : dval 0 [dg (y / 1000), dg (y / 100 % 10), dg (y / 10 % 10), dg (y % 10)] = y := by
      rw [dval_cons, dval_cons, dval_cons, dval_cons, dval_nil, dg_nat (by omega), dg_nat (by omega), dg_nat (by omega), dg_nat (by omega)]; omega
    have em : dval 0 [dg (m / 10), dg (m % 10)] = m := by
      rw [dval_cons, dval_cons, dval_nil, dg_nat (by omega), dg_nat (by omega)]; omega
    have ed : dval 0 [dg (d / 10), dg (d % 10)] = d := by
      rw [dval_cons, dval_cons, dval_nil, dg_nat (by omega), dg_nat (by omega)]; omega
    show (if dateB (dval 0 [dg (y / 1000), dg (y / 100 % 10), dg (y / 10 % 10), dg (y % 10)]) (dval 0 [dg (m / 10), dg (m % 10)]) (dval 0 [dg (d / 10), dg (d % 10)]) then some (dayNo (dval 0 [dg (y / 1000), dg (y / 100 % 10), dg (y / 10 % 10), dg (y % 10)]) (dval 0 [dg (m / 10), dg (m % 10)]) (dval 0 [dg (d / 10), dg (d % 10)])) else none) = _
    rw [ey, em, ed, if_pos hb]
  have hlen : (64 :: dtx y m d).length = 11 := by rw [hl]; rfl
  rw [hlen, tok1_cons, if_neg (by decide), if_neg (by decide), if_pos rfl, if_pos hdat, hday]
end Go.Proofs.YtbmcplnfamgpcaaDoor
