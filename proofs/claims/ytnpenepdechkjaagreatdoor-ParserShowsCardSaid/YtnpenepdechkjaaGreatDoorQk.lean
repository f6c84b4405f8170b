/- All names, numbers and days of what is parsed occur among the tokens. -/
import Derived.Test.YtnpenepdechkjaaGreatDoorMj
import Derived.Test.YtnpenepdechkjaaGreatDoorMg
namespace Go.Proofs.YtnpenepdechkjaaGreatDoor
open Go

def mS (y : Nat) : Nat := 365 * y + y / 4 - y / 100 + y / 400
theorem mS_next (Y : Nat) : (mS (Y + 1) : Int) = mS Y + 365 + (if (Y + 1) % 4 = 0 then 1 else 0) - (if (Y + 1) % 100 = 0 then 1 else 0) + (if (Y + 1) % 400 = 0 then 1 else 0) := by
  have e1 : (Y + 1) / 4 = Y / 4 + (if (Y + 1) % 4 = 0 then 1 else 0) := by split <;> omega
  have e2 : (Y + 1) / 100 = Y / 100 + (if (Y + 1) % 100 = 0 then 1 else 0) := by split <;> omega
  have e3 : (Y + 1) / 400 = Y / 400 + (if (Y + 1) % 400 = 0 then 1 else 0) := by split <;> omega
  have hq : Y / 100 ≤ Y := Nat.div_le_self _ _
  unfold mS
  rw [e1, e2, e3]
  generalize Y / 4 = p at *
  generalize Y / 100 = q at *
  generalize Y / 400 = r at *
  clear e1 e2 e3
  split <;> split <;> split <;> omega
theorem mS_succ (Y : Nat) : mS Y + 364 ≤ mS (Y + 1) := by
  have h := mS_next Y
  generalize mS (Y + 1) = a at *
  generalize mS Y = b at *
  split at h <;> split at h <;> split at h <;> omega
theorem mS_mono {a b : Nat} (h : a ≤ b) : mS a ≤ mS b := by
  induction b with
  | zero => obtain rfl : a = 0 := by omega
            exact Nat.le_refl _
  | succ b ih =>
    by_cases e : a = b + 1
    · rw [e]; exact Nat.le_refl _
    · have := ih (by omega)
      have := mS_succ b
      omega
theorem mar_mS (y m d : Nat) : marN y m d = (mS y : Int) + ((153 * m + 2) / 5 : Nat) + d - 307 := by
  have hq : y / 100 ≤ y := Nat.div_le_self _ _
  unfold marN mS
  omega
theorem feb_ok {Y d : Nat} (h : d ≤ if leap (Y + 1) then 29 else 28) : 337 + d + mS Y ≤ mS (Y + 1) := by
  have hn := mS_next Y
  have hl := leap_iff (Y + 1)
  generalize mS (Y + 1) = a at *
  generalize mS Y = b at *
  cases hb : leap (Y + 1) with
  | true =>
    rw [hb] at h
    have h' : d ≤ 29 := by simpa using h
    obtain ⟨b1, b2⟩ := hl.1 hb
    rw [if_pos b1] at hn
    rcases b2 with b2 | b2
    · rw [if_neg b2] at hn; split at hn <;> omega
    · rw [if_pos b2] at hn; split at hn <;> omega
  | false =>
    rw [hb] at h
    have h' : d ≤ 28 := by simpa using h
    have hf : ¬ ((Y + 1) % 4 = 0 ∧ ((Y + 1) % 100 ≠ 0 ∨ (Y + 1) % 400 = 0)) := fun e => by rw [hl.2 e] at hb; cases hb
    by_cases b1 : (Y + 1) % 4 = 0
    · rw [if_pos b1] at hn
      split at hn <;> split at hn <;> omega
    · have b2 : ¬ (Y + 1) % 100 = 0 := by omega
      rw [if_neg b1, if_neg b2] at hn
      split at hn <;> omega
theorem mon_ok {m d : Nat} (h3 : 3 ≤ m) (h12 : m ≤ 12) (h : d ≤ if m = 4 ∨ m = 6 ∨ m = 9 ∨ m = 11 then 30 else 31) : (153 * (m - 3) + 2) / 5 + d ≤ (153 * (m - 3 + 1) + 2) / 5 := by
  rcases (by omega : m = 3 ∨ m = 4 ∨ m = 5 ∨ m = 6 ∨ m = 7 ∨ m = 8 ∨ m = 9 ∨ m = 10 ∨ m = 11 ∨ m = 12) with e | e | e | e | e | e | e | e | e | e <;> subst e <;> split at h <;> omega
theorem md_facts {y m d : Nat} (h : dateB y m d = true) : ∃ Y M : Nat, (dayNo y m d : Int) = marN Y M d ∧ y = (if 10 ≤ M then Y + 1 else Y) ∧ m = (if 10 ≤ M then M - 9 else M + 3) ∧ 1 ≤ d ∧ d ≤ 31 ∧ M ≤ 11 ∧ (M ≤ 10 → (153 * M + 2) / 5 + d ≤ (153 * (M + 1) + 2) / 5) ∧ (153 * M + 2) / 5 + d + mS Y ≤ mS (Y + 1) := by
  obtain ⟨h1, h2, h3, h4, h5, h6⟩ := date_iff h
  have h7 : d ≤ mlen y m := by
    simp only [dateB, Bool.and_eq_true, decide_eq_true_eq] at h
    exact h.2.2.2.2.2
  rw [mlen_at y m h3 h4] at h7
  have hd := dayNo_mar h1 h3 h4 h5
  clear h
  by_cases h8 : m < 3
  · rw [if_pos h8] at hd
    obtain ⟨Y, rfl⟩ : ∃ Y, y = Y + 1 := ⟨y - 1, by omega⟩
    rw [show Y + 1 - 1 = Y by omega] at hd
    refine ⟨Y, m + 9, hd.symm, by rw [if_pos (by omega)], by rw [if_pos (by omega)]; omega, h5, h6, by omega, fun h9 => ?_, ?_⟩
    · clear hd h7; omega
    · clear hd
      by_cases h9 : m = 2
      · subst h9
        rw [if_pos rfl] at h7
        have := feb_ok h7
        omega
      · have := mS_succ Y
        clear h7
        omega
  · rw [if_neg h8] at hd
    rw [if_neg (by omega)] at h7
    have h9 := mon_ok (by omega) h4 h7
    refine ⟨y, m - 3, hd.symm, by rw [if_neg (by omega)], by rw [if_neg (by omega)]; omega, h5, h6, by omega, fun _ => h9, ?_⟩
    have := mS_succ y
    clear hd h7
    omega
theorem day_inj {y m d y' m' d' : Nat} (h : dateB y m d = true) (h' : dateB y' m' d' = true) (e : dayNo y m d = dayNo y' m' d') : y = y' ∧ m = m' ∧ d = d' := by
  obtain ⟨Y, M, a1, a2, a3, a4, _, a5, a6, a7⟩ := md_facts h
  obtain ⟨Y', M', b1, b2, b3, b4, _, b5, b6, b7⟩ := md_facts h'
  rw [mar_mS] at a1 b1
  rw [e] at a1
  have hY : Y = Y' := by
    rcases Nat.lt_trichotomy Y Y' with c | c | c
    · have := mS_mono (show Y + 1 ≤ Y' from c); omega
    · exact c
    · have := mS_mono (show Y' + 1 ≤ Y from c); omega
  subst hY
  have hM : M = M' := by
    rcases Nat.lt_trichotomy M M' with c | c | c
    · have := a6 (by omega); omega
    · exact c
    · have := b6 (by omega); omega
  subst hM
  exact ⟨by rw [a2, b2], by rw [a3, b3], by omega⟩
theorem dayNo_le {y m d : Nat} (h : dateB y m d = true) : dayNo y m d ≤ 3652058 := by
  obtain ⟨Y, M, a1, a2, a3, a4, a8, a5, a6, a7⟩ := md_facts h
  obtain ⟨h1, h2, h3, h4, h5, h6⟩ := date_iff h
  rw [mar_mS] at a1
  have e9 : mS 9999 = 3652059 := by decide
  by_cases hY : Y = 9999
  · subst hY
    have : M ≤ 9 := by
      by_cases h9 : 10 ≤ M
      · rw [if_pos h9] at a2; omega
      · omega
    omega
  · have : Y + 1 ≤ 9999 := by split at a2 <;> omega
    have := mS_mono this
    omega
theorem prL_of {y m d : Nat} (h : dateB y m d = true) : prL (dayNo y m d) = dtx y m d := by
  obtain ⟨g1, g2⟩ := ofD_ok (dayNo_le h)
  obtain ⟨e1, e2, e3⟩ := day_inj g1 h g2
  unfold prL
  rw [e1, e2, e3]
theorem dg_of {c : UInt8} (h : dig c = true) : dg (c.toNat - 48) = c := by
  have h1 := dig_iff.1 h
  apply UInt8.toNat_inj.1
  rw [dg_nat (by omega)]; omega
/-- A day's token is the text of its day. -/
theorem day_text {t : Tk} (h : TokOK t) (hk : t.kd = 3) : t.tx = 64 :: prL t.nm.toNat ∧ 0 ≤ t.nm ∧ t.nm ≤ 3652058 := by
  obtain ⟨c, r, hx, h3⟩ := tokOK_cons h
  have hlen : t.tx.length = r.length + 1 := by rw [hx]; rfl
  rw [hx]
  rw [hk, tok1_cons, hlen] at h3
  split at h3
  · split at h3
    · cases h3
    · injection h3 with h4; exact absurd h4 (by decide)
  · split at h3
    · split at h3
      · cases h3
      · split at h3
        · cases h3
        · injection h3 with h4; exact absurd h4 (by decide)
    · split at h3
      · rename_i h64
        subst h64
        split at h3
        · rename_i hd
          split at h3
          · rename_i v hv
            injection h3 with _ h5 h6
            have hl : r.length = 10 := by omega
            rcases r with _ | ⟨a1, _ | ⟨a2, _ | ⟨a3, _ | ⟨a4, _ | ⟨a5, _ | ⟨a6, _ | ⟨a7, _ | ⟨a8, _ | ⟨a9, _ | ⟨a10, r⟩⟩⟩⟩⟩⟩⟩⟩⟩⟩ <;> try (simp at hl; done)
            obtain rfl : r = [] := by simpa using hl
            obtain ⟨d1, d2, d3, d4, rfl, d6, d7, rfl, d9, d10⟩ := (dated11 _ _ _ _ _ _ _ _ _ _ _ _).1 hd
            have v' : (if dateB (dval 0 [a1, a2, a3, a4]) (dval 0 [a6, a7]) (dval 0 [a9, a10]) then some (dayNo (dval 0 [a1, a2, a3, a4]) (dval 0 [a6, a7]) (dval 0 [a9, a10])) else none) = some v := hv
            split at v'
            · rename_i hb
              injection v' with v'
              have hp := prL_of hb
              have hle := dayNo_le hb
              rw [v'] at hp hle
              have n1 := dig_iff.1 d1
              have n2 := dig_iff.1 d2
              have n3 := dig_iff.1 d3
              have n4 := dig_iff.1 d4
              have n6 := dig_iff.1 d6
              have n7 := dig_iff.1 d7
              have n9 := dig_iff.1 d9
              have n10 := dig_iff.1 d10
              have ey : dval 0 [a1, a2, a3, a4] = 1000 * (a1.toNat - 48) + 100 * (a2.toNat - 48) + 10 * (a3.toNat - 48) + (a4.toNat - 48) := by
                rw [dval_cons, dval_cons, dval_cons, dval_cons, dval_nil]; omega
              have em : dval 0 [a6, a7] = 10 * (a6.toNat - 48) + (a7.toNat - 48) := by rw [dval_cons, dval_cons, dval_nil]; omega
              have ed : dval 0 [a9, a10] = 10 * (a9.toNat - 48) + (a10.toNat - 48) := by rw [dval_cons, dval_cons, dval_nil]; omega
              rw [ey, em, ed, dtx_list (by omega) (by omega) (by omega)] at hp
              refine ⟨?_, by omega, by omega⟩
              have e6 : t.nm.toNat = v := by rw [← h6]; rfl
              rw [e6, hp]
              congr 1
              have q : ∀ {k : Nat} {c : UInt8}, dig c = true → k = c.toNat - 48 → c = dg k := fun {k c} hc hk => by rw [hk, dg_of hc]
              rw [← q d1 (by omega), ← q d2 (by omega), ← q d3 (by omega), ← q d4 (by omega), ← q d6 (by omega), ← q d7 (by omega), ← q d9 (by omega), ← q d10 (by omega)]
            · cases v'
          · cases h3
        · cases h3
      · split at h3
        · cases h3
        · injection h3 with h4; exact absurd h4 (by decide)
/-- What the law asks of a node. -/
def Occ (ts : List Tk) (k n : Int) (s : List UInt8) : Prop :=
  (s = [] ∨ k = 5 ∨ k = 6 ∨ ∃ t ∈ ts, t.kd = 1 ∧ t.tx = s) ∧ ((k ≠ 1 ∧ k ≠ 3) ∨ (k = 1 ∧ ∃ t ∈ ts, t.kd = 2 ∧ t.nm = n) ∨ (k = 3 ∧ 0 ≤ n ∧ n ≤ 3652058 ∧ ∃ t ∈ ts, t.kd = 3 ∧ t.tx = 64 :: prL n.toNat))
inductive Kn (ts : List Tk) : Tr → Prop
  | mk (k n : Int) (s : List UInt8) (ks : List Tr) (h : Occ ts k n s) (hk : ∀ t ∈ ks, Kn ts t) : Kn ts (.nd k n s ks)
def Wts (ts : List Tk) : Prop := ∀ t ∈ ts, TokOK t ∨ (t.kd = 0 ∧ t.tx = [])
theorem low_units : ∀ s ∈ units ++ fields, ∃ c r, s = c :: r ∧ low c = true := by
  intro s hs
  simp only [units, fields, List.cons_append, List.nil_append, List.mem_cons, List.not_mem_nil, or_false] at hs
  rcases hs with rfl | rfl | rfl | rfl | rfl | rfl | rfl | rfl | rfl | rfl | rfl <;> exact ⟨_, _, rfl, by decide⟩
section
variable {ts : List Tk} (hW : Wts ts)
theorem hd_in {r : List Tk} (h : hd r ≠ tkE) (hr : r ⊆ ts) : hd r ∈ ts := by
  obtain ⟨t, s, rfl, e⟩ := hd_ne h
  rw [e]; exact hr (List.mem_cons_self ..)
theorem tl_sub {r : List Tk} (hr : r ⊆ ts) : r.tail ⊆ ts := fun _ h => hr (List.mem_of_mem_tail h)
theorem opens_kn {s : List UInt8} {o : Nat} {r r1 : List Tk} {u : Unit} (hr : r ⊆ ts) (h : opensP s o r = .ok u r1) : r1 ⊆ ts := by
  unfold opensP at h
  split at h
  · split at h
    · cases h
    · obtain ⟨_, rfl⟩ := PR.ok_inj h; exact tl_sub hr
  · cases h
theorem must_kn {s : List UInt8} {r r1 : List Tk} {u : Unit} (hr : r ⊆ ts) (h : mustP s r = .ok u r1) : r1 ⊆ ts := by
  unfold mustP at h
  split at h
  · obtain ⟨_, rfl⟩ := PR.ok_inj h; exact tl_sub hr
  · cases h
theorem tok_kn {k : Int} (hk : k ≠ 0) {r r1 : List Tk} {t : Tk} (hr : r ⊆ ts) (h : tokP k r = .ok t r1) : r1 ⊆ ts ∧ t ∈ ts ∧ t.kd = k := by
  unfold tokP at h
  split at h
  · rename_i h1
    obtain ⟨rfl, rfl⟩ := PR.ok_inj h
    exact ⟨tl_sub hr, hd_in (fun e => hk (by rw [← h1, e]; rfl)) hr, h1⟩
  · cases h
include hW
theorem word_in {t : Tk} (ht : t ∈ ts) (hu : t.tx ∈ units ++ fields) : t.kd = 1 := by
  obtain ⟨c, r, e, hc⟩ := low_units _ hu
  rcases hW t ht with h | ⟨_, h⟩
  · exact tokOK_word h e hc
  · rw [h] at e; cases e
omit hW in
theorem occ_word {t : Tk} {k : Int} (ht : t ∈ ts) (hk : t.kd = 1) (h1 : k ≠ 1) (h3 : k ≠ 3) : Occ ts k 0 t.tx := ⟨.inr (.inr (.inr ⟨t, ht, hk, rfl⟩)), .inl ⟨h1, h3⟩⟩
theorem occ_day {t : Tk} (ht : t ∈ ts) (hk : t.kd = 3) : Occ ts 3 t.nm [] := by
  rcases hW t ht with h | ⟨h, _⟩
  · obtain ⟨h1, h2, h3⟩ := day_text h hk
    exact ⟨.inl rfl, .inr (.inr ⟨rfl, h2, h3, t, ht, hk, h1⟩)⟩
  · rw [hk] at h; cases h
theorem join_kn (lv : Nat) (op : List UInt8) {a b : Tr} {r : List Tk} (ha : Kn ts a) (hb : Kn ts b) (hr : r ⊆ ts) : Kn ts (joinP lv op a b r).1 ∧ (joinP lv op a b r).2 ⊆ ts := by
  have hk : ∀ t ∈ [a, b], Kn ts t := fun t ht => by
    rcases List.mem_cons.1 ht with rfl | ht
    · exact ha
    · obtain rfl := by simpa using ht
      exact hb
  unfold joinP
  split
  · rename_i h
    have h1 : hd r ≠ tkE := fun e => by rw [e] at h; exact absurd h.2 (by decide)
    have h2 := hd_in h1 hr
    have h3 := word_in hW h2 (List.mem_append.2 (.inl h.2))
    refine ⟨.mk _ _ _ _ ?_ hk, tl_sub hr⟩
    split
    · exact occ_word h2 h3 (by decide) (by decide)
    · exact occ_word h2 h3 (by decide) (by decide)
  · exact ⟨.mk _ _ _ _ ⟨.inr (.inr (.inl rfl)), .inl ⟨by decide, by decide⟩⟩ hk, hr⟩
def KnE (ts : List Tk) (E : Nat → Nat → List Tk → PR Tr) : Prop := ∀ lv o r t r', r ⊆ ts → E lv o r = .ok t r' → Kn ts t ∧ r' ⊆ ts
theorem loop_kn {E : Nat → Nat → List Tk → PR Tr} (hE : KnE ts E) (lv o : Nat) : ∀ (g : Nat) (n : Tr) (r : List Tk) (t : Tr) (r' : List Tk), Kn ts n → r ⊆ ts → loopP E lv o g n r = .ok t r' → Kn ts t ∧ r' ⊆ ts
  | 0, n, r, t, r', hn, hr, h => by
    rw [loopP] at h
    obtain ⟨rfl, rfl⟩ := PR.ok_inj h
    exact ⟨hn, hr⟩
  | g + 1, n, r, t, r', hn, hr, h => by
    rw [loopP] at h
    split at h
    · obtain ⟨b, r2, h2, h3⟩ := PR.bind_inv h
      obtain ⟨g1, g2⟩ := hE _ _ _ _ _ (tl_sub hr) h2
      obtain ⟨g3, g4⟩ := join_kn hW lv (hd r).tx hn g1 g2
      split at h3
      · obtain ⟨rfl, rfl⟩ := PR.ok_inj h3
        exact ⟨g3, g4⟩
      · exact loop_kn hE lv o g _ _ _ _ g3 g4 h3
    · obtain ⟨rfl, rfl⟩ := PR.ok_inj h
      exact ⟨hn, hr⟩
omit hW in
theorem call_kn {E : Nat → Nat → List Tk → PR Tr} (hE : KnE ts E) {o : Nat} {r : List Tk} {t : Tr} {r' : List Tk} (hr : r ⊆ ts) (h : callP E o r = .ok t r') : Kn ts t ∧ r' ⊆ ts := by
  unfold callP at h
  obtain ⟨x, r1, h1, h⟩ := PR.bind_inv h
  obtain ⟨_, r2, h2, h⟩ := PR.bind_inv h
  obtain ⟨a, r3, h3, h⟩ := PR.bind_inv h
  obtain ⟨g1, gx, gk⟩ := tok_kn (by decide) hr h1
  have g2 := opens_kn g1 h2
  obtain ⟨ga, g3⟩ := hE _ _ _ _ _ g2 h3
  have ho := occ_word (k := 10) gx gk (by decide) (by decide)
  split at h
  · obtain ⟨_, r4, h4, h⟩ := PR.bind_inv h
    have g4 := must_kn g3 h4
    obtain ⟨rfl, rfl⟩ := PR.ok_inj h
    refine ⟨.mk _ _ _ _ ho fun t ht => ?_, g4⟩
    obtain rfl := by simpa using ht
    exact ga
  · obtain ⟨_, r4, h4, h⟩ := PR.bind_inv h
    obtain ⟨b, r5, h5, h⟩ := PR.bind_inv h
    obtain ⟨_, r6, h6, h⟩ := PR.bind_inv h
    have g4 := must_kn g3 h4
    obtain ⟨gb, g5⟩ := hE _ _ _ _ _ g4 h5
    have g6 := must_kn g5 h6
    obtain ⟨rfl, rfl⟩ := PR.ok_inj h
    refine ⟨.mk _ _ _ _ ho fun t ht => ?_, g6⟩
    rcases List.mem_cons.1 ht with rfl | ht
    · exact ga
    · obtain rfl := by simpa using ht
      exact gb
omit hW in
theorem choice_kn {E : Nat → Nat → List Tk → PR Tr} (hE : KnE ts E) {o : Nat} {r : List Tk} {t : Tr} {r' : List Tk} (hr : r ⊆ ts) (h : choiceP E o r = .ok t r') : Kn ts t ∧ r' ⊆ ts := by
  unfold choiceP at h
  obtain ⟨_, r1, h1, h⟩ := PR.bind_inv h
  obtain ⟨a, r2, h2, h⟩ := PR.bind_inv h
  obtain ⟨_, r3, h3, h⟩ := PR.bind_inv h
  obtain ⟨b, r4, h4, h⟩ := PR.bind_inv h
  obtain ⟨_, r5, h5, h⟩ := PR.bind_inv h
  obtain ⟨c, r6, h6, h⟩ := PR.bind_inv h
  obtain ⟨_, r7, h7, h⟩ := PR.bind_inv h
  have g1 := opens_kn hr h1
  obtain ⟨ga, g2⟩ := hE _ _ _ _ _ g1 h2
  have g3 := must_kn g2 h3
  obtain ⟨gb, g4⟩ := hE _ _ _ _ _ g3 h4
  have g5 := must_kn g4 h5
  obtain ⟨gc, g6⟩ := hE _ _ _ _ _ g5 h6
  have g7 := must_kn g6 h7
  obtain ⟨rfl, rfl⟩ := PR.ok_inj h
  refine ⟨.mk _ _ _ _ ⟨.inl rfl, .inl ⟨by decide, by decide⟩⟩ fun t ht => ?_, g7⟩
  rcases List.mem_cons.1 ht with rfl | ht
  · exact ga
  · rcases List.mem_cons.1 ht with rfl | ht
    · exact gb
    · obtain rfl := by simpa using ht
      exact gc
theorem prim_kn {E : Nat → Nat → List Tk → PR Tr} (hE : KnE ts E) {o : Nat} {r : List Tk} {t : Tr} {r' : List Tk} (hr : r ⊆ ts) (h : primP E o r = .ok t r') : Kn ts t ∧ r' ⊆ ts := by
  unfold primP at h
  split at h
  · rename_i h1
    have g := hd_in (r := r) (fun e => by rw [e] at h1; revert h1; decide) hr
    obtain ⟨rfl, rfl⟩ := PR.ok_inj h
    exact ⟨.mk _ _ _ _ ⟨.inl rfl, .inr (.inl ⟨rfl, _, g, h1, rfl⟩)⟩ (fun t ht => by cases ht), tl_sub hr⟩
  split at h
  · rename_i h1
    have g := hd_in (r := r) (fun e => by rw [e] at h1; revert h1; decide) hr
    obtain ⟨rfl, rfl⟩ := PR.ok_inj h
    exact ⟨.mk _ _ _ _ (occ_day hW g h1) (fun t ht => by cases ht), tl_sub hr⟩
  split at h
  · obtain ⟨rfl, rfl⟩ := PR.ok_inj h
    exact ⟨.mk _ _ _ _ ⟨.inl rfl, .inl ⟨by decide, by decide⟩⟩ (fun t ht => by cases ht), tl_sub hr⟩
  split at h
  · obtain ⟨rfl, rfl⟩ := PR.ok_inj h
    exact ⟨.mk _ _ _ _ ⟨.inl rfl, .inl ⟨by decide, by decide⟩⟩ (fun t ht => by cases ht), tl_sub hr⟩
  split at h
  · obtain ⟨_, r1, h1, h⟩ := PR.bind_inv h
    obtain ⟨n, r2, h2, h⟩ := PR.bind_inv h
    obtain ⟨_, r3, h3, h⟩ := PR.bind_inv h
    obtain ⟨gn, g2⟩ := hE _ _ _ _ _ (opens_kn hr h1) h2
    have g3 := must_kn g2 h3
    obtain ⟨rfl, rfl⟩ := PR.ok_inj h
    exact ⟨gn, g3⟩
  split at h
  · exact choice_kn hE hr h
  split at h
  · exact call_kn hE hr h
  split at h
  · rename_i h1
    have g := hd_in (r := r) (fun e => by rw [e] at h1; revert h1; decide) hr
    obtain ⟨rfl, rfl⟩ := PR.ok_inj h
    exact ⟨.mk _ _ _ _ (occ_word g (word_in hW g (List.mem_append.2 (.inr h1))) (by decide) (by decide)) (fun t ht => by cases ht), tl_sub hr⟩
  · cases h
theorem expr_kn : ∀ (f : Nat), KnE ts (exprP f)
  | 0, _, _, _, _, _, _, h => by cases h
  | f + 1, lv, o, r, t, r', hr, h => by
    have hE := expr_kn f
    rw [exprP, stepP] at h
    split at h
    · obtain ⟨_, r1, h1, h⟩ := PR.bind_inv h
      obtain ⟨n, r2, h2, h⟩ := PR.bind_inv h
      obtain ⟨gn, g2⟩ := hE _ _ _ _ _ (opens_kn hr h1) h2
      obtain ⟨rfl, rfl⟩ := PR.ok_inj h
      refine ⟨.mk _ _ _ _ ⟨.inr (.inl rfl), .inl ⟨by decide, by decide⟩⟩ fun t ht => ?_, g2⟩
      obtain rfl := by simpa using ht
      exact gn
    split at h
    · exact prim_kn hW hE hr h
    · obtain ⟨n, r2, h1, h⟩ := PR.bind_inv h
      obtain ⟨gn, g2⟩ := hE _ _ _ _ _ hr h1
      exact loop_kn hW hE lv o _ _ _ _ _ gn g2 h
/-- What the law asks of a rule. -/
structure KnR (ts : List Tk) (x : Rl) : Prop where
  name : Occ ts 0 0 x.name
  from_ : Occ ts 3 x.from_ []
  on_ : Occ ts 0 0 x.on_
  if_ : Kn ts x.if_
  due : Kn ts x.due
  unless_ : Occ ts 0 0 x.unless_
  else_ : Occ ts 0 0 x.else_
omit hW in
theorem name_kn {r r1 : List Tk} {u : List UInt8} (hr : r ⊆ ts) (h : nameP r = .ok u r1) : Occ ts 0 0 u ∧ r1 ⊆ ts := by
  unfold nameP at h
  split at h
  · cases h
  · obtain ⟨t, r2, h1, h2⟩ := PR.bind_inv h
    obtain ⟨g1, g2, g3⟩ := tok_kn (by decide) hr h1
    obtain ⟨rfl, rfl⟩ := PR.ok_inj h2
    exact ⟨occ_word g2 g3 (by decide) (by decide), g1⟩
omit hW in
theorem part_kn {α : Type} {rd : List Tk → PR α} {Q : α → Prop} (hrd : ∀ r v r', r ⊆ ts → rd r = .ok v r' → Q v ∧ r' ⊆ ts) {d : α} (hd0 : Q d) {w : List UInt8} {r r1 : List Tk} {u : α} (hr : r ⊆ ts) (h : partP w d rd r = .ok u r1) : Q u ∧ r1 ⊆ ts := by
  unfold partP at h
  split at h
  · obtain ⟨a, r2, h1, h2⟩ := PR.bind_inv h
    obtain ⟨_, r3, h3, h4⟩ := PR.bind_inv h2
    obtain ⟨g1, g2⟩ := hrd _ _ _ (tl_sub hr) h1
    have g3 := must_kn g2 h3
    obtain ⟨rfl, rfl⟩ := PR.ok_inj h4
    exact ⟨g1, g3⟩
  · obtain ⟨rfl, rfl⟩ := PR.ok_inj h
    exact ⟨hd0, hr⟩
theorem rule_kn {E : List Tk → PR Tr} (hE : ∀ r t r', r ⊆ ts → E r = .ok t r' → Kn ts t ∧ r' ⊆ ts) {r : List Tk} {x : Rl} {r' : List Tk} (hr : r ⊆ ts) (h : ruleP E r = .ok x r') : KnR ts x ∧ r' ⊆ ts := by
  unfold ruleP at h
  obtain ⟨_, r1, h1, h⟩ := PR.bind_inv h
  obtain ⟨_, r2, h2, h⟩ := PR.bind_inv h
  obtain ⟨_, r3, h3, h⟩ := PR.bind_inv h
  obtain ⟨d, r4, h4, h⟩ := PR.bind_inv h
  obtain ⟨_, r5, h5, h⟩ := PR.bind_inv h
  obtain ⟨_, r6, h6, h⟩ := PR.bind_inv h
  obtain ⟨_, r7, h7, h⟩ := PR.bind_inv h
  obtain ⟨_, r8, h8, h⟩ := PR.bind_inv h
  obtain ⟨_, r9, h9, h⟩ := PR.bind_inv h
  obtain ⟨_, r10, h10, h⟩ := PR.bind_inv h
  obtain ⟨_, r11, h11, h⟩ := PR.bind_inv h
  obtain ⟨_, r12, h12, h⟩ := PR.bind_inv h
  obtain ⟨_, r13, h13, h⟩ := PR.bind_inv h
  obtain ⟨_, r14, h14, h⟩ := PR.bind_inv h
  obtain ⟨_, r15, h15, h⟩ := PR.bind_inv h
  have hT : Kn ts trTrue := .mk _ _ _ _ ⟨.inl rfl, .inl ⟨by decide, by decide⟩⟩ fun t ht => by cases ht
  have hN : Occ ts 0 0 [] := ⟨.inl rfl, .inl ⟨by decide, by decide⟩⟩
  have g1 := must_kn hr h1
  obtain ⟨q1, g2⟩ := name_kn g1 h2
  have g3 := must_kn g2 h3
  obtain ⟨g4, q2, q3⟩ := tok_kn (by decide) g3 h4
  have g5 := must_kn g4 h5
  have g6 := must_kn g5 h6
  obtain ⟨q4, g7⟩ := name_kn g6 h7
  have g8 := must_kn g7 h8
  obtain ⟨q5, g9⟩ := part_kn (Q := Kn ts) (fun r t r' hr h => hE r t r' hr h) hT g8 h9
  have g10 := must_kn g9 h10
  obtain ⟨q6, g11⟩ := hE _ _ _ g10 h11
  have g12 := must_kn g11 h12
  obtain ⟨q7, g13⟩ := part_kn (Q := Occ ts 0 0) (fun r t r' hr h => name_kn hr h) hN g12 h13
  obtain ⟨q8, g14⟩ := part_kn (Q := Occ ts 0 0) (fun r t r' hr h => name_kn hr h) hN g13 h14
  have g15 := must_kn g14 h15
  obtain ⟨rfl, rfl⟩ := PR.ok_inj h
  exact ⟨⟨q1, occ_day hW q2 q3, q4, q5, q6, q7, q8⟩, g15⟩
theorem rules_kn {E : List Tk → PR Tr} (hE : ∀ r t r', r ⊆ ts → E r = .ok t r' → Kn ts t ∧ r' ⊆ ts) : ∀ (g : Nat) (l : List Rl) (r : List Tk) (v : List Rl) (r' : List Tk), r ⊆ ts → (∀ x ∈ l, KnR ts x) → rulesP E g l r = .ok v r' → ∀ x ∈ v, KnR ts x
  | 0, l, r, v, r', hr, hx, h => by
    rw [rulesP] at h
    obtain ⟨rfl, rfl⟩ := PR.ok_inj h
    exact hx
  | g + 1, l, r, v, r', hr, hx, h => by
    rw [rulesP] at h
    split at h
    · obtain ⟨rfl, rfl⟩ := PR.ok_inj h
      exact hx
    · obtain ⟨x, r2, h1, h2⟩ := PR.bind_inv h
      obtain ⟨g1, g2⟩ := rule_kn hW hE hr h1
      refine rules_kn hE g (l ++ [x]) r2 v r' g2 (fun y hy => ?_) h2
      rcases List.mem_append.1 hy with hy | hy
      · exact hx y hy
      · obtain rfl : y = x := by simpa using hy
        exact g1
end
/-- The law of what follows. -/
theorem follows_R {s : List UInt8} (h : (parseR s).2.2 = 0) : (lexT s).e = 0 ∧ ∀ x ∈ (parseR s).1, KnR (lexT s).l x := by
  by_cases he : (lexT s).e = 0
  · refine ⟨he, ?_⟩
    obtain ⟨h1, _⟩ := lexT_ok he
    have hW : Wts (lexT s).l := fun t ht => h1.all ht
    unfold parseR parseG
    rw [if_pos he]
    cases hr : RP EX [] (lexT s).l with
    | bad r e => intro x hx; cases hx
    | ok v r =>
      simp only
      split
      · exact rules_kn hW (fun r t r' hr h => expr_kn hW 40000 1 0 r t r' hr h) _ _ _ _ _ (fun t ht => ht) (fun x hx => by cases hx) hr
      · intro x hx; cases hx
  · exfalso
    unfold parseR parseG at h
    rw [if_neg he] at h
    exact he h
end Go.Proofs.YtnpenepdechkjaaGreatDoor
