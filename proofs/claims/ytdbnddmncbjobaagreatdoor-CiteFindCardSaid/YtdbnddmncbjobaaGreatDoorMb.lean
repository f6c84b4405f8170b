/- The book in plain Lean: what is freezed, how lines are broken. -/
import Derived.Test.YtdbnddmncbjobaaGreatDoorMa
namespace Go.Proofs.YtdbnddmncbjobaaGreatDoor

theorem widB_bd (c : UInt8) : 0 ≤ widB c ∧ widB c ≤ 12 := by
  unfold widB
  split
  · omega
  · have : ∀ i : Nat, (wtab[i]?.getD 0) ≤ 12 := fun i => by
      cases h : wtab[i]? with
      | none => simp
      | some v =>
        have hm := List.mem_of_getElem? h
        have : ∀ v ∈ wtab, v ≤ 12 := by decide
        simpa using this v hm
    have := this (c.toNat - 33)
    omega
theorem widGo_bd (s : List UInt8) : ∀ n : Int, 0 ≤ n → 0 ≤ widGo s n ∧ widGo s n ≤ n + 12 * s.length := by
  induction s with
  | nil => intro n hn; simp [widGo]; omega
  | cons c r ih =>
    intro n hn
    have := widB_bd c
    simp only [widGo, List.length_cons]
    split
    · omega
    · have := ih (n + widB c) (by omega)
      omega
theorem wid_bd (s : List UInt8) : 0 ≤ wid s ∧ wid s ≤ 480 := by
  unfold wid
  split
  · omega
  · have := widGo_bd s 0 (Int.le_refl _)
    omega
theorem best_len (m : Int) (ws : List Int) : (best m ws).length = ws.length + 1 := by
  induction ws with
  | nil => rfl
  | cons w r ih => simp [best, ih]
theorem best_drop (m : Int) (ws : List Int) (i : Nat) (hi : i ≤ ws.length) : (best m ws).drop i = best m (ws.drop i) := by
  induction ws generalizing i with
  | nil => obtain rfl : i = 0 := by simpa using hi
           rfl
  | cons w r ih =>
    cases i with
    | zero => rfl
    | succ i => simp only [best, List.drop_succ_cons]; exact ih i (by simpa using hi)
/-- The widths are those of words, and fit into a measure. -/
def Wds (ws : List Int) : Prop := ∀ w ∈ ws, 0 ≤ w ∧ w ≤ 480
theorem wds_of (ws : List Wd) : Wds (ws.map fun w => wid w.s) := fun x hx => by
  obtain ⟨w, _, rfl⟩ := List.mem_map.1 hx
  exact wid_bd _
theorem Wds.tail {w : Int} {r : List Int} (h : Wds (w :: r)) : Wds r := fun x hx => h x (List.mem_cons_of_mem _ hx)
theorem pk_bd (ws : List Int) : ∀ (s : Int) (bs : List (Int × Nat)) (k : Nat) (c : Int) (e : Nat), (1 ≤ e ∧ e ≤ k ∨ k = 0 ∧ ∃ w r b l, ws = w :: r ∧ bs = b :: l ∧ 0 ≤ s - (w + 6)) → bs.length = ws.length →
    1 ≤ (pk s ws bs k c e).2 ∧ (pk s ws bs k c e).2 ≤ k + ws.length := by
  induction ws with
  | nil =>
    intro s bs k c e h hl
    rcases h with h | ⟨_, w, r, b, l, h, _⟩
    · cases bs with
      | nil => simp [pk]; omega
      | cons b l => simp at hl
    · cases h
  | cons w r ih =>
    intro s bs k c e h hl
    cases bs with
    | nil => simp at hl
    | cons b l =>
      simp only [pk]
      by_cases h1 : s - (w + 6) < 0
      · rw [if_pos h1]
        rcases h with h | ⟨_, w', r', b', l', h2, _, h3⟩
        · simp; omega
        · simp at h2; omega
      rw [if_neg h1]
      by_cases h2 : r.isEmpty = true
      · rw [if_pos h2]; simp
      rw [if_neg h2]
      by_cases h3 : k = 0 ∨ (s - (w + 6)) * (s - (w + 6)) + b.1 ≤ c
      · rw [if_pos h3]
        have := ih (s - (w + 6)) l (k + 1) ((s - (w + 6)) * (s - (w + 6)) + b.1) (k + 1) (.inl ⟨by omega, by omega⟩) (by simpa using hl)
        simp only [List.length_cons]; omega
      · rw [if_neg h3]
        have := ih (s - (w + 6)) l (k + 1) c e (.inl ⟨by omega, by omega⟩) (by simpa using hl)
        simp only [List.length_cons]; omega
theorem best_bd {m : Int} (hm : 500 ≤ m) {w : Int} {r : List Int} (h : Wds (w :: r)) : ∃ b l, best m (w :: r) = b :: l ∧ 1 ≤ b.2 ∧ b.2 ≤ r.length + 1 := by
  refine ⟨_, _, rfl, ?_⟩
  have hl := best_len m r
  cases hb : best m r with
  | nil => rw [hb] at hl; simp at hl
  | cons b l =>
    have h1 := h w (by simp)
    have := pk_bd (w :: r) (m + 6) (b :: l) 0 0 0 (.inr ⟨rfl, w, r, b, l, rfl, rfl, by omega⟩) (by rw [hb] at hl; simpa using hl)
    simpa using this
/-- The costs are small. -/
theorem pk_cost (M : Int) (hM : 0 ≤ M) (ws : List Int) : ∀ (s : Int) (bs : List (Int × Nat)) (k : Nat) (c : Int) (e : Nat), Wds ws → s ≤ M + 6 → 0 ≤ c → c ≤ M * M * (k + ws.length + 1 : Nat) → (∀ (i : Nat) b, bs[i]? = some b → 0 ≤ b.1 ∧ b.1 ≤ M * M * (ws.length - i : Nat)) →
    0 ≤ (pk s ws bs k c e).1 ∧ (pk s ws bs k c e).1 ≤ M * M * (k + ws.length + 1 : Nat) := by
  have hMM : 0 ≤ M * M := Int.mul_nonneg hM hM
  induction ws with
  | nil => intro s bs k c e _ _ h0 h1 _; cases bs <;> simp only [pk] <;> exact ⟨h0, h1⟩
  | cons w r ih =>
    intro s bs k c e hw hs h0 h1 hb
    cases bs with
    | nil => simp only [pk]; exact ⟨h0, h1⟩
    | cons b l =>
      have hw1 := hw w (by simp)
      have hb0 := hb 0 b rfl
      simp only [pk]
      by_cases h2 : s - (w + 6) < 0
      · rw [if_pos h2]; exact ⟨h0, h1⟩
      rw [if_neg h2]
      by_cases h3 : r.isEmpty = true
      · rw [if_pos h3]; exact ⟨Int.le_refl _, Int.mul_nonneg hMM (by omega)⟩
      rw [if_neg h3]
      have hsq : 0 ≤ (s - (w + 6)) * (s - (w + 6)) := Int.mul_nonneg (by omega) (by omega)
      have hsq2 : (s - (w + 6)) * (s - (w + 6)) ≤ M * M := Int.mul_le_mul (by omega) (by omega) (by omega) hM
      have hbs : ∀ (i : Nat) b', l[i]? = some b' → 0 ≤ b'.1 ∧ b'.1 ≤ M * M * (r.length - i : Nat) := fun i b' hi => by
        have := hb (i + 1) b' (by simpa using hi)
        rw [show (w :: r).length - (i + 1) = r.length - i by simp] at this
        exact this
      have e1 : (k + (w :: r).length + 1 : Nat) = ((k + 1) + r.length + 1 : Nat) := by simp; omega
      by_cases h4 : k = 0 ∨ (s - (w + 6)) * (s - (w + 6)) + b.1 ≤ c
      · rw [if_pos h4, e1]
        refine ih _ l (k + 1) _ _ hw.tail (by omega) (by omega) ?_ hbs
        have h5 : M * M * ((w :: r).length - 0 : Nat) = M * M * (r.length : Nat) + M * M := by simp only [List.length_cons, Nat.sub_zero, Int.natCast_add, Int.mul_add]; simp
        have h6 : M * M * ((k + 1) + r.length + 1 : Nat) = M * M * (r.length : Nat) + M * M * (k + 2 : Nat) := by rw [← Int.mul_add]; congr 1; omega
        have h7 : M * M * 2 ≤ M * M * (k + 2 : Nat) := Int.mul_le_mul_of_nonneg_left (by omega) hMM
        omega
      · rw [if_neg h4, e1]
        exact ih _ l (k + 1) c e hw.tail (by omega) h0 (by rw [← e1]; exact h1) hbs
theorem best_cost {m : Int} (hm : 0 ≤ m) (ws : List Int) (h : Wds ws) : ∀ (i : Nat) b, (best m ws)[i]? = some b → 0 ≤ b.1 ∧ b.1 ≤ m * m * (ws.length + 1 - i : Nat) := by
  have hMM : 0 ≤ m * m := Int.mul_nonneg hm hm
  induction ws with
  | nil =>
    intro i b hi
    have : b = (0, 0) := by
      cases i with
      | zero => simpa [best] using hi.symm
      | succ i => simp [best] at hi
    subst this
    exact ⟨Int.le_refl _, Int.mul_nonneg hMM (by omega)⟩
  | cons w r ih =>
    intro i b hi
    have ih := ih h.tail
    cases i with
    | zero =>
      have hb : b = pk (m + 6) (w :: r) (best m r) 0 0 0 := by simpa [best] using hi.symm
      rw [hb]
      have := pk_cost m hm (w :: r) (m + 6) (best m r) 0 0 0 h (Int.le_refl _) (Int.le_refl _) (Int.mul_nonneg hMM (by omega)) (fun i b hi => by simpa using ih i b hi)
      simpa using this
    | succ i =>
      have := ih i b (by simpa [best] using hi)
      rw [show (w :: r).length + 1 - (i + 1) = r.length + 1 - i by simp]
      exact this
theorem lensF_ok {m : Int} (hm : 500 ≤ m) : ∀ (f : Nat) (ws : List Int), Wds ws → ws.length ≤ f → (∀ l ∈ lensF f (best m ws), 1 ≤ l) ∧ (lensF f (best m ws)).sum = ws.length
  | 0, ws, _, hf => by
    obtain rfl : ws = [] := List.eq_nil_of_length_eq_zero (by omega)
    simp [lensF]
  | f + 1, [], _, _ => by simp [lensF, best]
  | f + 1, w :: r, hw, hf => by
    obtain ⟨b, l, e, h1, h2⟩ := best_bd hm hw
    obtain ⟨c, l', hl⟩ : ∃ c l', l = c :: l' := by
      have := best_len m (w :: r)
      rw [e] at this
      cases l with
      | nil => simp at this
      | cons c l' => exact ⟨c, l', rfl⟩
    have hd : ((b :: c :: l').drop b.2) = best m ((w :: r).drop b.2) := by rw [← hl, ← e]; exact best_drop m (w :: r) b.2 (by simpa using h2)
    have ih := lensF_ok hm f ((w :: r).drop b.2) (fun x hx => hw x (List.mem_of_mem_drop hx)) (by simp at hf ⊢; omega)
    rw [e, hl]
    simp only [lensF, hd]
    refine ⟨fun x hx => ?_, ?_⟩
    · rcases List.mem_cons.1 hx with hx | hx
      · omega
      · exact ih.1 x hx
    · rw [List.sum_cons, ih.2]; simp; omega
theorem lens_ok {m : Int} (hm : 500 ≤ m) {ws : List Int} (h : Wds ws) : (∀ l ∈ lens ws m, 1 ≤ l) ∧ (lens ws m).sum = ws.length := lensF_ok hm _ ws h (Nat.le_refl _)
theorem lensF_fuel {m : Int} (hm : 500 ≤ m) : ∀ (f g : Nat) (ws : List Int), Wds ws → ws.length ≤ f → ws.length ≤ g → lensF f (best m ws) = lensF g (best m ws)
  | 0, g, ws, _, hf, _ => by
    obtain rfl : ws = [] := List.eq_nil_of_length_eq_zero (by omega)
    cases g <;> simp [lensF, best]
  | f + 1, 0, ws, _, _, hg => by
    obtain rfl : ws = [] := List.eq_nil_of_length_eq_zero (by omega)
    simp [lensF, best]
  | f + 1, g + 1, [], _, _, _ => by simp [lensF, best]
  | f + 1, g + 1, w :: r, hw, hf, hg => by
    obtain ⟨b, l, e, h1, h2⟩ := best_bd hm hw
    obtain ⟨c, l', hl⟩ : ∃ c l', l = c :: l' := by
      have := best_len m (w :: r)
      rw [e] at this
      cases l with
      | nil => simp at this
      | cons c l' => exact ⟨c, l', rfl⟩
    have hd : ((b :: c :: l').drop b.2) = best m ((w :: r).drop b.2) := by rw [← hl, ← e]; exact best_drop m (w :: r) b.2 (by simpa using h2)
    have ih := lensF_fuel hm f g ((w :: r).drop b.2) (fun x hx => hw x (List.mem_of_mem_drop hx)) (by simp at hf ⊢; omega) (by simp at hg ⊢; omega)
    rw [e, hl]
    simp only [lensF, hd, ih]
/-- The lines, one after the other. -/
theorem lens_cons {m : Int} (hm : 500 ≤ m) {ws : List Int} (h : Wds ws) (h0 : ws ≠ []) : ∃ b l, best m ws = b :: l ∧ 1 ≤ b.2 ∧ b.2 ≤ ws.length ∧ lens ws m = b.2 :: lens (ws.drop b.2) m := by
  cases ws with
  | nil => exact absurd rfl h0
  | cons w r =>
    obtain ⟨b, l, e, h1, h2⟩ := best_bd hm h
    obtain ⟨c, l', hl⟩ : ∃ c l', l = c :: l' := by
      have := best_len m (w :: r)
      rw [e] at this
      cases l with
      | nil => simp at this
      | cons c l' => exact ⟨c, l', rfl⟩
    have hd : ((b :: c :: l').drop b.2) = best m ((w :: r).drop b.2) := by rw [← hl, ← e]; exact best_drop m (w :: r) b.2 (by simpa using h2)
    refine ⟨b, l, e, h1, by simpa using h2, ?_⟩
    have hw : Wds ((w :: r).drop b.2) := fun x hx => h x (List.mem_of_mem_drop hx)
    show lensF (r.length + 1) (best m (w :: r)) = _
    rw [e, hl]
    simp only [lensF, hd]
    congr 1
    exact lensF_fuel hm _ _ _ hw (by simp; omega) (Nat.le_refl _)
end Go.Proofs.YtdbnddmncbjobaaGreatDoor

/- glyphWidth, Width, Valid: walked. -/
namespace Go.Proofs.YtdbnddmncbjobaaGreatDoor
open Go Go.RowKit

/-- The table of widths, in every later world. -/
def EnvW (w : World) : Prop := ∀ W, Ext w W → W.var? Tryz.prog "rollbook/glyph.widths" = some (Array.map (fun i : Nat => Value.int .u8 i) wtab.toArray)
theorem EnvW.ext {w W : World} (h : EnvW w) (hx : Ext w W) : EnvW W := fun W' hx' => h W' (hx.trans hx')
theorem ret_i {a b : Int} (h : a = b) : Ending.returned (.int .i64 a) = .returned (.int .i64 b) := by rw [h]
theorem wtab_cell {w : World} (hL : EnvW w) (i : Nat) (hi : i < 94) : w.cell? ⟨4, i, none⟩ = some (.int .u8 ((wtab[i]?.getD 0 : Nat) : Int)) := by
  have hv := hL w (Ext.refl w)
  have hg : Tryz.prog.globalNamed "rollbook/glyph.widths" = some 4 := by kernel_rfl
  have h := World.var?_cell hg hv i
  rw [h]
  have hl : i < wtab.length := hi
  simp [List.getElem?_eq_getElem hl]
set_option maxHeartbeats 4000000 in
set_option maxRecDepth 100000 in
theorem gwidth_any (c : UInt8) (w : World) (hL : EnvW w) : Calls Tryz.prog 239 #[.int .u8 c.toNat] w (fun e w' => e = .returned (.int .i64 (widB c)) ∧ w' = w) := by
  have hc := c.toNat_lt
  by_cases h1 : c.toNat < 33
  · have h1' : (c.toNat : Int) < 33 := by omega
    have HE := Lib.hid (show widB c = 0 by unfold widB; rw [if_pos (.inl h1)])
    go_enter Tryz.func239, Tryz.ntmps239
    go_wp2
    go_ret
    exact ⟨ret_i HE.out.symm, rfl⟩
  have h1' : ¬ (c.toNat : Int) < 33 := by omega
  by_cases h2 : 127 ≤ c.toNat
  · have h2' : (127 : Int) ≤ (c.toNat : Int) := by omega
    have HE := Lib.hid (show widB c = 0 by unfold widB; rw [if_pos (.inr h2)])
    go_enter Tryz.func239, Tryz.ntmps239
    go_wp2
    go_ret
    exact ⟨ret_i HE.out.symm, rfl⟩
  have h2' : ¬ (127 : Int) ≤ (c.toNat : Int) := by omega
  obtain ⟨k, hk⟩ : ∃ k, k = c.toNat - 33 := ⟨_, rfl⟩
  have hcell := wtab_cell hL k (by omega)
  obtain ⟨v, hv⟩ : ∃ v, v = wtab[k]?.getD 0 := ⟨_, rfl⟩
  have hvb : v ≤ 12 := by
    have := (widB_bd c).2
    unfold widB at this
    rw [if_neg (by omega), ← hk, ← hv] at this
    omega
  have HE := Lib.hid (show widB c = (v : Int) by unfold widB; rw [if_neg (by omega), ← hk, ← hv])
  rw [← hv] at hcell
  have e1 : c.toNat = k + 33 := by omega
  rw [e1] at h1' h2' hc ⊢
  clear hv hk hL e1 h1 h2
  go_enter Tryz.func239, Tryz.ntmps239
  go_wp2
  go_ret
  exact ⟨ret_i HE.out.symm, rfl⟩
end Go.Proofs.YtdbnddmncbjobaaGreatDoor
